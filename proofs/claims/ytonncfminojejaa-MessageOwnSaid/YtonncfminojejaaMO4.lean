/- Texts of a proof, part 4. Conditions: none. -/
import Derived.Test.YtonncfminojejaaMO3
import Derived.Test.YtonncfminojejaaProg
import Derived.KernelRfl
import Derived.Laws.CopyRow
import Derived.Laws.Externs
import Derived.Stop.BytesEq
import Derived.Shelf.SlSortCmp.Insertion
set_option linter.unusedVariables false
set_option linter.unusedSimpArgs false
namespace Go.Proofs.Ytonncfminojejaa
open Go.ChangeShapes Go.WideShapes Go.ChangeAt Go.RowKit Go.Deep Go.Joins
section
variable {H : Type} {enc : TypeId × Value → H} {w : World}
theorem open_structs_trod {P : Program} {α : Type} (e : α → D) {t el : TypeId} {size bytes : Nat} (ht : P.underlying t = some (.slice el)) (hc : P.cellsOf el = size) (hs0 : 0 < size) (hby : P.bytesOf el = bytes) (hb0 : 0 < bytes) (Q : α → List Value → Prop)
    (elem : ∀ (fuel : Nat) (cs : List Value) (x : DataW H × List MemPlace), DataW.trod enc P w 0 (fun _ => true) true fuel el cs = some x → Sized P el x.1 → cs.length = size → ∃ d, Q d cs)
    (hw : ∀ a, (e a).width = size) (hag : ∀ a, (e a).isAgg = true) (hrep : ∀ d cs, Q d cs → ∀ (η : Names) (X : Nat → Nat → Prop), (∀ b i, X b i) → Rep P w η X (e d) (.agg cs.toArray))
    {fuel : Nat} {cs : List Value} {x : DataW H × List MemPlace} (h : DataW.trod enc P w 0 (fun _ => true) true fuel t cs = some x) (hs : Sized P t x.1) :
    ∃ l : List α, (∀ a ∈ l, ∃ cs, Q a cs) ∧ l.length ≤ 140737488351232 ∧ ∃ u, cs = [u] ∧ ∀ (η : Names) (X : Nat → Nat → Prop), (∀ b i, X b i) → Rep P w η X (.sl .no (l.map e)) u := by
  obtain ⟨A, c, l, hcs, hlc, hr, hb⟩ := open_rows_trod (α := α × List Value) ht hc hs0 hby hb0 (fun b o d => d.2.length = size ∧ Q d.1 d.2 ∧ w.rangeAt b o d.2) (fun fuel cs x b o _ hx hsx hlen hcell => by
    obtain ⟨d, hd⟩ := elem fuel cs x hx hsx hlen
    exact ⟨(d, cs), hlen, hd, hcell⟩) h hs
  have hbb : l.length ≤ 140737488351232 := by
    have : c * 1 ≤ c * bytes := Nat.mul_le_mul_left _ hb0
    omega
  refine ⟨l.map (·.1), fun a ha => ?_, by rw [List.length_map]; exact hbb, _, hcs, fun η X hX => ?_⟩
  · obtain ⟨d, hd, rfl⟩ := List.mem_map.1 ha
    obtain ⟨i, hi, rfl⟩ := List.getElem_of_mem hd
    obtain ⟨b, o, _, _, hf⟩ := hr (by omega)
    exact ⟨_, (hf i _ (List.getElem?_eq_getElem hi)).2.1⟩
  · rcases Nat.eq_zero_or_pos l.length with h0 | h0
    · obtain rfl : l = [] := List.eq_nil_of_length_eq_zero h0
      simp only [Rep, List.map_nil, List.length_nil]
      exact ⟨A, c, rfl, Nat.zero_le _, by omega, trivial, fun h => absurd h (by omega)⟩
    · obtain ⟨b, o, rfl, hbl, hf⟩ := hr h0
      have hget : ∀ (i : Nat) (a : α), (l.map (·.1))[i]? = some a → ∃ C, l[i]? = some (a, C) ∧ ((l[i]?.map (·.2)).getD []) = C := by
        intro i a ha
        rw [List.getElem?_map] at ha
        cases hi : l[i]? with
        | none => rw [hi] at ha; cases ha
        | some d =>
          rw [hi] at ha
          obtain ⟨d1, d2⟩ := d
          simp at ha
          exact ⟨d2, by rw [ha], rfl⟩
      have hlen : l.length = (l.map (·.1)).length := by simp
      rw [hlen] at hlc hbb ⊢
      refine rep_structs (F := (· < w.heap.size)) e size hs0 (fun b i _ => hX b i) (b := b) (o := o) (C := fun i => (l[i]?.map (·.2)).getD []) (fun _ => ⟨rfl, hbl⟩) (fun i a ha => ?_) (fun i a ha => ?_) hag hlc hbb
      · obtain ⟨C, h1, h2⟩ := hget i a ha
        simp only [h2]
        have := hf i _ h1
        exact ⟨this.1, this.2.2⟩
      · obtain ⟨C, h1, h2⟩ := hget i a ha
        simp only [h2]
        exact hrep a C (hf i _ h1).2.1 η X hX
theorem open_structs {P : Program} {α : Type} (e : α → D) {t el : TypeId} {size bytes : Nat} (ht : P.underlying t = some (.slice el)) (hc : P.cellsOf el = size) (hs0 : 0 < size) (hby : P.bytesOf el = bytes) (hb0 : 0 < bytes) (Q : α → List Value → Prop)
    (elem : ∀ (fuel : Nat) (cs : List Value) (x : DataW H × List MemPlace), DataW.trod enc P w 0 (fun _ => true) true fuel el cs = some x → Sized P el x.1 → cs.length = size → ∃ d, Q d cs)
    (hw : ∀ a, (e a).width = size) (hag : ∀ a, (e a).isAgg = true) (hrep : ∀ d cs, Q d cs → ∀ (η : Names) (X : Nat → Nat → Prop), (∀ b i, X b i) → Rep P w η X (e d) (.agg cs.toArray))
    {v : Value} {d : DataW H} {p : List MemPlace} {W : World} {base : Nat} (h : DataW.Trod enc P w 0 (fun _ => true) true t v d p) (hs : Sized P t d) (hk : Value.okWide P W .any base t v) :
    ∃ l : List α, (∀ a ∈ l, ∃ cs, Q a cs) ∧ l.length ≤ 140737488351232 ∧ ∀ (η : Names) (X : Nat → Nat → Prop), (∀ b i, X b i) → Rep P w η X (.sl .no (l.map e)) v := by
  obtain ⟨a, n, c, rfl⟩ := okWide_slice ht hk
  obtain ⟨fuel, h⟩ := h
  obtain ⟨l, h1, h2, u, e, h3⟩ := open_structs_trod e ht hc hs0 hby hb0 Q elem hw hag hrep h hs
  obtain rfl : Value.slice a n c = u := by simpa [Value.cells] using e
  exact ⟨l, h1, h2, h3⟩
theorem open_cells_trod {P : Program} {α : Type} (g : α → Value) (hg : ∀ a, (g a).oneCell' = true) {t el : TypeId} {bytes : Nat} (ht : P.underlying t = some (.slice el)) (hc : P.cellsOf el = 1) (hby : P.bytesOf el = bytes) (hb0 : 0 < bytes) (Q : α → Prop)
    (elem : ∀ (fuel : Nat) (u : Value) (x : DataW H × List MemPlace), DataW.trod enc P w 0 (fun _ => true) true fuel el [u] = some x → Sized P el x.1 → ∃ d, Q d ∧ u = g d)
    {fuel : Nat} {cs : List Value} {x : DataW H × List MemPlace} (h : DataW.trod enc P w 0 (fun _ => true) true fuel t cs = some x) (hs : Sized P t x.1) :
    ∃ l : List α, (∀ a ∈ l, Q a) ∧ l.length ≤ 140737488351232 ∧ ∃ u, cs = [u] ∧ ∀ (η : Names) (X : Nat → Nat → Prop), (∀ b i, X b i) → Rep P w η X (.sl .no (l.map fun a => .v (g a))) u := by
  obtain ⟨A, c, l, hcs, hlc, hr, hb⟩ := open_rows_trod (α := α) ht hc (by omega) hby hb0 (fun b o a => Q a ∧ w.cell? ⟨b, o, none⟩ = some (g a)) (fun fuel cs x b o _ hx hsx hlen hcell => by
    match cs, hlen with
    | [u], _ =>
      obtain ⟨d, hd, rfl⟩ := elem fuel u x hx hsx
      exact ⟨d, hd, hcell 0 _ rfl⟩) h hs
  have hbb : l.length ≤ 140737488351232 := by
    have : c * 1 ≤ c * bytes := Nat.mul_le_mul_left _ hb0
    omega
  refine ⟨l, fun a ha => ?_, hbb, _, hcs, fun η X hX => ?_⟩
  · obtain ⟨i, hi, rfl⟩ := List.getElem_of_mem ha
    obtain ⟨b, o, _, _, hf⟩ := hr (by omega)
    exact (hf i _ (List.getElem?_eq_getElem hi)).1
  · simp only [Rep]
    refine ⟨A, c, by rw [List.length_map], by rw [List.length_map]; exact hlc, by rw [List.length_map]; omega, trivial, fun h0 => ?_⟩
    rw [List.length_map] at h0
    obtain ⟨b, o, e, hbl, hf⟩ := hr h0
    refine ⟨b, o, 1, e, by omega, RepE.mk fun i d hd => ?_⟩
    rw [List.getElem?_map] at hd
    cases hi : l[i]? with
    | none => rw [hi] at hd; cases hd
    | some a =>
      rw [hi] at hd
      injection hd with hd
      subst hd
      exact ⟨by simp only [RepA], fun _ => ⟨rfl, hX _ _, g a, (hf i a hi).2, hg a, by simp only [Rep]⟩⟩
end
end Go.Proofs.Ytonncfminojejaa

namespace Go.Proofs.Ytonncfminojejaa

@[go_sem] theorem okT_1 : okT Try.prog 1 = true := by kernel_rfl
@[go_sem] theorem szOf_1 : szOf Try.prog 1 = 1 := by kernel_rfl
@[go_sem] theorem aggT_1 : aggT Try.prog 1 = false := by kernel_rfl
@[go_sem] theorem undS_1 : (Try.prog.underlying 1).isSome = true := by kernel_rfl
@[go_sem] theorem infS_1 : (Try.prog.info? 1).isSome = true := by kernel_rfl
@[go_sem] theorem ifaceT_1 : ifaceT Try.prog 1 = false := by kernel_rfl
@[go_sem] theorem ptrT_1 : ptrT Try.prog 1 = false := by kernel_rfl
@[go_sem] theorem zeroT_1 : zeroT Try.prog 1 = true := by kernel_rfl
@[go_sem] theorem zeroOk_1 : zeroOk Try.prog 1 = true := by kernel_rfl
@[go_sem] theorem bytesOf_1 : bytesOf Try.prog 1 = 8 := by kernel_rfl
@[go_sem] theorem zeroD_1 : zeroD Try.prog 1 = [.v .nilFunc] := by kernel_rfl
@[go_sem] theorem okT_2 : okT Try.prog 2 = true := by kernel_rfl
@[go_sem] theorem szOf_2 : szOf Try.prog 2 = 1 := by kernel_rfl
@[go_sem] theorem aggT_2 : aggT Try.prog 2 = false := by kernel_rfl
@[go_sem] theorem undS_2 : (Try.prog.underlying 2).isSome = true := by kernel_rfl
@[go_sem] theorem infS_2 : (Try.prog.info? 2).isSome = true := by kernel_rfl
@[go_sem] theorem ifaceT_2 : ifaceT Try.prog 2 = false := by kernel_rfl
@[go_sem] theorem ptrT_2 : ptrT Try.prog 2 = false := by kernel_rfl
@[go_sem] theorem zeroT_2 : zeroT Try.prog 2 = true := by kernel_rfl
@[go_sem] theorem zeroOk_2 : zeroOk Try.prog 2 = true := by kernel_rfl
@[go_sem] theorem bytesOf_2 : bytesOf Try.prog 2 = 8 := by kernel_rfl
@[go_sem] theorem zeroD_2 : zeroD Try.prog 2 = [.v (.int .i64 0)] := by kernel_rfl
@[go_sem] theorem okT_3 : okT Try.prog 3 = true := by kernel_rfl
@[go_sem] theorem szOf_3 : szOf Try.prog 3 = 1 := by kernel_rfl
@[go_sem] theorem aggT_3 : aggT Try.prog 3 = false := by kernel_rfl
@[go_sem] theorem undS_3 : (Try.prog.underlying 3).isSome = true := by kernel_rfl
@[go_sem] theorem infS_3 : (Try.prog.info? 3).isSome = true := by kernel_rfl
@[go_sem] theorem ifaceT_3 : ifaceT Try.prog 3 = false := by kernel_rfl
@[go_sem] theorem ptrT_3 : ptrT Try.prog 3 = false := by kernel_rfl
@[go_sem] theorem zeroT_3 : zeroT Try.prog 3 = true := by kernel_rfl
@[go_sem] theorem zeroOk_3 : zeroOk Try.prog 3 = true := by kernel_rfl
@[go_sem] theorem bytesOf_3 : bytesOf Try.prog 3 = 8 := by kernel_rfl
@[go_sem] theorem zeroD_3 : zeroD Try.prog 3 = [.v (.int .i64 0)] := by kernel_rfl
@[go_sem] theorem okT_4 : okT Try.prog 4 = true := by kernel_rfl
@[go_sem] theorem szOf_4 : szOf Try.prog 4 = 1 := by kernel_rfl
@[go_sem] theorem aggT_4 : aggT Try.prog 4 = false := by kernel_rfl
@[go_sem] theorem undS_4 : (Try.prog.underlying 4).isSome = true := by kernel_rfl
@[go_sem] theorem infS_4 : (Try.prog.info? 4).isSome = true := by kernel_rfl
@[go_sem] theorem ifaceT_4 : ifaceT Try.prog 4 = false := by kernel_rfl
@[go_sem] theorem ptrT_4 : ptrT Try.prog 4 = false := by kernel_rfl
@[go_sem] theorem zeroT_4 : zeroT Try.prog 4 = true := by kernel_rfl
@[go_sem] theorem zeroOk_4 : zeroOk Try.prog 4 = true := by kernel_rfl
@[go_sem] theorem bytesOf_4 : bytesOf Try.prog 4 = 1 := by kernel_rfl
@[go_sem] theorem zeroD_4 : zeroD Try.prog 4 = [.v (.bool false)] := by kernel_rfl
@[go_sem] theorem okT_5 : okT Try.prog 5 = true := by kernel_rfl
@[go_sem] theorem szOf_5 : szOf Try.prog 5 = 1 := by kernel_rfl
@[go_sem] theorem aggT_5 : aggT Try.prog 5 = false := by kernel_rfl
@[go_sem] theorem undS_5 : (Try.prog.underlying 5).isSome = true := by kernel_rfl
@[go_sem] theorem infS_5 : (Try.prog.info? 5).isSome = true := by kernel_rfl
@[go_sem] theorem ifaceT_5 : ifaceT Try.prog 5 = false := by kernel_rfl
@[go_sem] theorem ptrT_5 : ptrT Try.prog 5 = false := by kernel_rfl
@[go_sem] theorem zeroT_5 : zeroT Try.prog 5 = true := by kernel_rfl
@[go_sem] theorem zeroOk_5 : zeroOk Try.prog 5 = true := by kernel_rfl
@[go_sem] theorem bytesOf_5 : bytesOf Try.prog 5 = 1 := by kernel_rfl
@[go_sem] theorem zeroD_5 : zeroD Try.prog 5 = [.v (.int .u8 0)] := by kernel_rfl
@[go_sem] theorem okT_6 : okT Try.prog 6 = true := by kernel_rfl
@[go_sem] theorem szOf_6 : szOf Try.prog 6 = 1 := by kernel_rfl
@[go_sem] theorem aggT_6 : aggT Try.prog 6 = false := by kernel_rfl
@[go_sem] theorem undS_6 : (Try.prog.underlying 6).isSome = true := by kernel_rfl
@[go_sem] theorem infS_6 : (Try.prog.info? 6).isSome = true := by kernel_rfl
@[go_sem] theorem ifaceT_6 : ifaceT Try.prog 6 = false := by kernel_rfl
@[go_sem] theorem ptrT_6 : ptrT Try.prog 6 = false := by kernel_rfl
@[go_sem] theorem zeroT_6 : zeroT Try.prog 6 = true := by kernel_rfl
@[go_sem] theorem zeroOk_6 : zeroOk Try.prog 6 = true := by kernel_rfl
@[go_sem] theorem bytesOf_6 : bytesOf Try.prog 6 = 1 := by kernel_rfl
@[go_sem] theorem zeroD_6 : zeroD Try.prog 6 = [.v (.int .u8 0)] := by kernel_rfl
@[go_sem] theorem okT_7 : okT Try.prog 7 = true := by kernel_rfl
@[go_sem] theorem szOf_7 : szOf Try.prog 7 = 4 := by kernel_rfl
@[go_sem] theorem aggT_7 : aggT Try.prog 7 = true := by kernel_rfl
@[go_sem] theorem undS_7 : (Try.prog.underlying 7).isSome = true := by kernel_rfl
@[go_sem] theorem infS_7 : (Try.prog.info? 7).isSome = true := by kernel_rfl
@[go_sem] theorem ifaceT_7 : ifaceT Try.prog 7 = false := by kernel_rfl
@[go_sem] theorem ptrT_7 : ptrT Try.prog 7 = false := by kernel_rfl
@[go_sem] theorem zeroT_7 : zeroT Try.prog 7 = true := by kernel_rfl
@[go_sem] theorem zeroOk_7 : zeroOk Try.prog 7 = true := by kernel_rfl
@[go_sem] theorem bytesOf_7 : bytesOf Try.prog 7 = 24 := by kernel_rfl
@[go_sem] theorem zeroD_7 : zeroD Try.prog 7 = [.v (.int .i64 0), .v (.int .i64 0), .v (.bool false), .v (.int .u8 0)] := by kernel_rfl
@[go_sem] theorem fld_7_0 : fld Try.prog 7 0 = some (0, 2) := by kernel_rfl
@[go_sem] theorem fld_7_1 : fld Try.prog 7 1 = some (1, 3) := by kernel_rfl
@[go_sem] theorem fld_7_2 : fld Try.prog 7 2 = some (2, 4) := by kernel_rfl
@[go_sem] theorem fld_7_3 : fld Try.prog 7 3 = some (3, 6) := by kernel_rfl
@[go_sem] theorem okT_8 : okT Try.prog 8 = true := by kernel_rfl
@[go_sem] theorem szOf_8 : szOf Try.prog 8 = 4 := by kernel_rfl
@[go_sem] theorem aggT_8 : aggT Try.prog 8 = true := by kernel_rfl
@[go_sem] theorem undS_8 : (Try.prog.underlying 8).isSome = true := by kernel_rfl
@[go_sem] theorem infS_8 : (Try.prog.info? 8).isSome = true := by kernel_rfl
@[go_sem] theorem ifaceT_8 : ifaceT Try.prog 8 = false := by kernel_rfl
@[go_sem] theorem ptrT_8 : ptrT Try.prog 8 = false := by kernel_rfl
@[go_sem] theorem zeroT_8 : zeroT Try.prog 8 = true := by kernel_rfl
@[go_sem] theorem zeroOk_8 : zeroOk Try.prog 8 = true := by kernel_rfl
@[go_sem] theorem bytesOf_8 : bytesOf Try.prog 8 = 24 := by kernel_rfl
@[go_sem] theorem zeroD_8 : zeroD Try.prog 8 = [.v (.int .i64 0), .v (.int .i64 0), .v (.bool false), .v (.int .u8 0)] := by kernel_rfl
@[go_sem] theorem fld_8_0 : fld Try.prog 8 0 = some (0, 2) := by kernel_rfl
@[go_sem] theorem fld_8_1 : fld Try.prog 8 1 = some (1, 3) := by kernel_rfl
@[go_sem] theorem fld_8_2 : fld Try.prog 8 2 = some (2, 4) := by kernel_rfl
@[go_sem] theorem fld_8_3 : fld Try.prog 8 3 = some (3, 6) := by kernel_rfl
@[go_sem] theorem okT_9 : okT Try.prog 9 = true := by kernel_rfl
@[go_sem] theorem szOf_9 : szOf Try.prog 9 = 1 := by kernel_rfl
@[go_sem] theorem aggT_9 : aggT Try.prog 9 = false := by kernel_rfl
@[go_sem] theorem undS_9 : (Try.prog.underlying 9).isSome = true := by kernel_rfl
@[go_sem] theorem infS_9 : (Try.prog.info? 9).isSome = true := by kernel_rfl
@[go_sem] theorem ifaceT_9 : ifaceT Try.prog 9 = false := by kernel_rfl
@[go_sem] theorem ptrT_9 : ptrT Try.prog 9 = false := by kernel_rfl
@[go_sem] theorem zeroT_9 : zeroT Try.prog 9 = true := by kernel_rfl
@[go_sem] theorem zeroOk_9 : zeroOk Try.prog 9 = true := by kernel_rfl
@[go_sem] theorem bytesOf_9 : bytesOf Try.prog 9 = 16 := by kernel_rfl
@[go_sem] theorem zeroD_9 : zeroD Try.prog 9 = [.v (.string ⟨#[]⟩)] := by kernel_rfl
@[go_sem] theorem strT_9 : strT Try.prog 9 = true := by kernel_rfl
@[go_sem] theorem okT_11 : okT Try.prog 11 = true := by kernel_rfl
@[go_sem] theorem szOf_11 : szOf Try.prog 11 = 1 := by kernel_rfl
@[go_sem] theorem aggT_11 : aggT Try.prog 11 = false := by kernel_rfl
@[go_sem] theorem undS_11 : (Try.prog.underlying 11).isSome = true := by kernel_rfl
@[go_sem] theorem infS_11 : (Try.prog.info? 11).isSome = true := by kernel_rfl
@[go_sem] theorem ifaceT_11 : ifaceT Try.prog 11 = false := by kernel_rfl
@[go_sem] theorem ptrT_11 : ptrT Try.prog 11 = false := by kernel_rfl
@[go_sem] theorem zeroT_11 : zeroT Try.prog 11 = true := by kernel_rfl
@[go_sem] theorem zeroOk_11 : zeroOk Try.prog 11 = true := by kernel_rfl
@[go_sem] theorem bytesOf_11 : bytesOf Try.prog 11 = 16 := by kernel_rfl
@[go_sem] theorem zeroD_11 : zeroD Try.prog 11 = [.v (.string ⟨#[]⟩)] := by kernel_rfl
@[go_sem] theorem strT_11 : strT Try.prog 11 = true := by kernel_rfl
@[go_sem] theorem okT_12 : okT Try.prog 12 = true := by kernel_rfl
@[go_sem] theorem szOf_12 : szOf Try.prog 12 = 1 := by kernel_rfl
@[go_sem] theorem aggT_12 : aggT Try.prog 12 = false := by kernel_rfl
@[go_sem] theorem undS_12 : (Try.prog.underlying 12).isSome = true := by kernel_rfl
@[go_sem] theorem infS_12 : (Try.prog.info? 12).isSome = true := by kernel_rfl
@[go_sem] theorem ifaceT_12 : ifaceT Try.prog 12 = false := by kernel_rfl
@[go_sem] theorem ptrT_12 : ptrT Try.prog 12 = false := by kernel_rfl
@[go_sem] theorem zeroT_12 : zeroT Try.prog 12 = true := by kernel_rfl
@[go_sem] theorem zeroOk_12 : zeroOk Try.prog 12 = true := by kernel_rfl
@[go_sem] theorem bytesOf_12 : bytesOf Try.prog 12 = 8 := by kernel_rfl
@[go_sem] theorem zeroD_12 : zeroD Try.prog 12 = [.v (.int .u64 0)] := by kernel_rfl
@[go_sem] theorem okT_13 : okT Try.prog 13 = true := by kernel_rfl
@[go_sem] theorem szOf_13 : szOf Try.prog 13 = 2 := by kernel_rfl
@[go_sem] theorem aggT_13 : aggT Try.prog 13 = true := by kernel_rfl
@[go_sem] theorem undS_13 : (Try.prog.underlying 13).isSome = true := by kernel_rfl
@[go_sem] theorem infS_13 : (Try.prog.info? 13).isSome = true := by kernel_rfl
@[go_sem] theorem ifaceT_13 : ifaceT Try.prog 13 = false := by kernel_rfl
@[go_sem] theorem ptrT_13 : ptrT Try.prog 13 = false := by kernel_rfl
@[go_sem] theorem zeroT_13 : zeroT Try.prog 13 = true := by kernel_rfl
@[go_sem] theorem zeroOk_13 : zeroOk Try.prog 13 = true := by kernel_rfl
@[go_sem] theorem bytesOf_13 : bytesOf Try.prog 13 = 24 := by kernel_rfl
@[go_sem] theorem zeroD_13 : zeroD Try.prog 13 = [.v (.string ⟨#[]⟩), .v (.int .u64 0)] := by kernel_rfl
@[go_sem] theorem fld_13_0 : fld Try.prog 13 0 = some (0, 9) := by kernel_rfl
@[go_sem] theorem fld_13_1 : fld Try.prog 13 1 = some (1, 12) := by kernel_rfl
@[go_sem] theorem okT_14 : okT Try.prog 14 = true := by kernel_rfl
@[go_sem] theorem szOf_14 : szOf Try.prog 14 = 2 := by kernel_rfl
@[go_sem] theorem aggT_14 : aggT Try.prog 14 = true := by kernel_rfl
@[go_sem] theorem undS_14 : (Try.prog.underlying 14).isSome = true := by kernel_rfl
@[go_sem] theorem infS_14 : (Try.prog.info? 14).isSome = true := by kernel_rfl
@[go_sem] theorem ifaceT_14 : ifaceT Try.prog 14 = false := by kernel_rfl
@[go_sem] theorem ptrT_14 : ptrT Try.prog 14 = false := by kernel_rfl
@[go_sem] theorem zeroT_14 : zeroT Try.prog 14 = true := by kernel_rfl
@[go_sem] theorem zeroOk_14 : zeroOk Try.prog 14 = true := by kernel_rfl
@[go_sem] theorem bytesOf_14 : bytesOf Try.prog 14 = 24 := by kernel_rfl
@[go_sem] theorem zeroD_14 : zeroD Try.prog 14 = [.v (.string ⟨#[]⟩), .v (.int .u64 0)] := by kernel_rfl
@[go_sem] theorem fld_14_0 : fld Try.prog 14 0 = some (0, 9) := by kernel_rfl
@[go_sem] theorem fld_14_1 : fld Try.prog 14 1 = some (1, 12) := by kernel_rfl
@[go_sem] theorem okT_17 : okT Try.prog 17 = true := by kernel_rfl
@[go_sem] theorem szOf_17 : szOf Try.prog 17 = 1 := by kernel_rfl
@[go_sem] theorem aggT_17 : aggT Try.prog 17 = false := by kernel_rfl
@[go_sem] theorem undS_17 : (Try.prog.underlying 17).isSome = true := by kernel_rfl
@[go_sem] theorem infS_17 : (Try.prog.info? 17).isSome = true := by kernel_rfl
@[go_sem] theorem ifaceT_17 : ifaceT Try.prog 17 = false := by kernel_rfl
@[go_sem] theorem ptrT_17 : ptrT Try.prog 17 = true := by kernel_rfl
@[go_sem] theorem zeroT_17 : zeroT Try.prog 17 = true := by kernel_rfl
@[go_sem] theorem zeroOk_17 : zeroOk Try.prog 17 = true := by kernel_rfl
@[go_sem] theorem bytesOf_17 : bytesOf Try.prog 17 = 8 := by kernel_rfl
@[go_sem] theorem zeroD_17 : zeroD Try.prog 17 = [.v (.pointer none)] := by kernel_rfl
@[go_sem] theorem okT_19 : okT Try.prog 19 = true := by kernel_rfl
@[go_sem] theorem szOf_19 : szOf Try.prog 19 = 1 := by kernel_rfl
@[go_sem] theorem aggT_19 : aggT Try.prog 19 = true := by kernel_rfl
@[go_sem] theorem undS_19 : (Try.prog.underlying 19).isSome = true := by kernel_rfl
@[go_sem] theorem infS_19 : (Try.prog.info? 19).isSome = true := by kernel_rfl
@[go_sem] theorem ifaceT_19 : ifaceT Try.prog 19 = false := by kernel_rfl
@[go_sem] theorem ptrT_19 : ptrT Try.prog 19 = false := by kernel_rfl
@[go_sem] theorem zeroT_19 : zeroT Try.prog 19 = true := by kernel_rfl
@[go_sem] theorem zeroOk_19 : zeroOk Try.prog 19 = true := by kernel_rfl
@[go_sem] theorem bytesOf_19 : bytesOf Try.prog 19 = 8 := by kernel_rfl
@[go_sem] theorem zeroD_19 : zeroD Try.prog 19 = [.v (.pointer none)] := by kernel_rfl
@[go_sem] theorem fld_19_0 : fld Try.prog 19 0 = some (0, 17) := by kernel_rfl
@[go_sem] theorem okT_22 : okT Try.prog 22 = true := by kernel_rfl
@[go_sem] theorem szOf_22 : szOf Try.prog 22 = 64 := by kernel_rfl
@[go_sem] theorem aggT_22 : aggT Try.prog 22 = true := by kernel_rfl
@[go_sem] theorem undS_22 : (Try.prog.underlying 22).isSome = true := by kernel_rfl
@[go_sem] theorem infS_22 : (Try.prog.info? 22).isSome = true := by kernel_rfl
@[go_sem] theorem ifaceT_22 : ifaceT Try.prog 22 = false := by kernel_rfl
@[go_sem] theorem ptrT_22 : ptrT Try.prog 22 = false := by kernel_rfl
@[go_sem] theorem zeroT_22 : zeroT Try.prog 22 = true := by kernel_rfl
@[go_sem] theorem zeroOk_22 : zeroOk Try.prog 22 = true := by kernel_rfl
@[go_sem] theorem bytesOf_22 : bytesOf Try.prog 22 = 64 := by kernel_rfl
@[go_sem] theorem zeroD_22 : zeroD Try.prog 22 = [.v (.int .u8 0), .v (.int .u8 0), .v (.int .u8 0), .v (.int .u8 0), .v (.int .u8 0), .v (.int .u8 0), .v (.int .u8 0), .v (.int .u8 0), .v (.int .u8 0), .v (.int .u8 0), .v (.int .u8 0), .v (.int .u8 0), .v (.int .u8 0), .v (.int .u8 0), .v (.int .u8 0), .v (.int .u8 0), .v (.int .u8 0), .v (.int .u8 0), .v (.int .u8 0), .v (.int .u8 0), .v (.int .u8 0), .v (.int .u8 0), .v (.int .u8 0), .v (.int .u8 0), .v (.int .u8 0), .v (.int .u8 0), .v (.int .u8 0), .v (.int .u8 0), .v (.int .u8 0), .v (.int .u8 0), .v (.int .u8 0), .v (.int .u8 0), .v (.int .u8 0), .v (.int .u8 0), .v (.int .u8 0), .v (.int .u8 0), .v (.int .u8 0), .v (.int .u8 0), .v (.int .u8 0), .v (.int .u8 0), .v (.int .u8 0), .v (.int .u8 0), .v (.int .u8 0), .v (.int .u8 0), .v (.int .u8 0), .v (.int .u8 0), .v (.int .u8 0), .v (.int .u8 0), .v (.int .u8 0), .v (.int .u8 0), .v (.int .u8 0), .v (.int .u8 0), .v (.int .u8 0), .v (.int .u8 0), .v (.int .u8 0), .v (.int .u8 0), .v (.int .u8 0), .v (.int .u8 0), .v (.int .u8 0), .v (.int .u8 0), .v (.int .u8 0), .v (.int .u8 0), .v (.int .u8 0), .v (.int .u8 0)] := by kernel_rfl
@[go_sem] theorem arT_22 : arT Try.prog 22 = some (64, 5) := by kernel_rfl
@[go_sem] theorem okT_23 : okT Try.prog 23 = true := by kernel_rfl
@[go_sem] theorem szOf_23 : szOf Try.prog 23 = 1 := by kernel_rfl
@[go_sem] theorem aggT_23 : aggT Try.prog 23 = false := by kernel_rfl
@[go_sem] theorem undS_23 : (Try.prog.underlying 23).isSome = true := by kernel_rfl
@[go_sem] theorem infS_23 : (Try.prog.info? 23).isSome = true := by kernel_rfl
@[go_sem] theorem ifaceT_23 : ifaceT Try.prog 23 = false := by kernel_rfl
@[go_sem] theorem ptrT_23 : ptrT Try.prog 23 = false := by kernel_rfl
@[go_sem] theorem zeroT_23 : zeroT Try.prog 23 = true := by kernel_rfl
@[go_sem] theorem zeroOk_23 : zeroOk Try.prog 23 = true := by kernel_rfl
@[go_sem] theorem bytesOf_23 : bytesOf Try.prog 23 = 24 := by kernel_rfl
@[go_sem] theorem zeroD_23 : zeroD Try.prog 23 = [.sl .full []] := by kernel_rfl
@[go_sem] theorem elT_23 : elT Try.prog 23 = some 44 := by kernel_rfl
@[go_sem] theorem bul_23 (own : Own) (es : List D) (ty : TypeId) (cs : Array Bool) : dbuiltin Try.prog .len #[23] ty cs [.sl own es] = some (True, .v (.int .i64 es.length)) := bu_len own es _ ty cs elT_23
@[go_sem] theorem bwl_23 (k off n c : Nat) (ty : TypeId) (cs : Array Bool) : dbuiltin Try.prog .len #[23] ty cs [.win k off n c] = some (True, .v (.int .i64 n)) := bu_wlen k off n c _ ty cs elT_23
@[go_sem] theorem okT_24 : okT Try.prog 24 = true := by kernel_rfl
@[go_sem] theorem szOf_24 : szOf Try.prog 24 = 1 := by kernel_rfl
@[go_sem] theorem aggT_24 : aggT Try.prog 24 = false := by kernel_rfl
@[go_sem] theorem undS_24 : (Try.prog.underlying 24).isSome = true := by kernel_rfl
@[go_sem] theorem infS_24 : (Try.prog.info? 24).isSome = true := by kernel_rfl
@[go_sem] theorem ifaceT_24 : ifaceT Try.prog 24 = false := by kernel_rfl
@[go_sem] theorem ptrT_24 : ptrT Try.prog 24 = false := by kernel_rfl
@[go_sem] theorem zeroT_24 : zeroT Try.prog 24 = true := by kernel_rfl
@[go_sem] theorem zeroOk_24 : zeroOk Try.prog 24 = true := by kernel_rfl
@[go_sem] theorem bytesOf_24 : bytesOf Try.prog 24 = 24 := by kernel_rfl
@[go_sem] theorem zeroD_24 : zeroD Try.prog 24 = [.sl .full []] := by kernel_rfl
@[go_sem] theorem elT_24 : elT Try.prog 24 = some 29 := by kernel_rfl
@[go_sem] theorem bul_24 (own : Own) (es : List D) (ty : TypeId) (cs : Array Bool) : dbuiltin Try.prog .len #[24] ty cs [.sl own es] = some (True, .v (.int .i64 es.length)) := bu_len own es _ ty cs elT_24
@[go_sem] theorem bwl_24 (k off n c : Nat) (ty : TypeId) (cs : Array Bool) : dbuiltin Try.prog .len #[24] ty cs [.win k off n c] = some (True, .v (.int .i64 n)) := bu_wlen k off n c _ ty cs elT_24
@[go_sem] theorem okT_26 : okT Try.prog 26 = true := by kernel_rfl
@[go_sem] theorem szOf_26 : szOf Try.prog 26 = 68 := by kernel_rfl
@[go_sem] theorem aggT_26 : aggT Try.prog 26 = true := by kernel_rfl
@[go_sem] theorem undS_26 : (Try.prog.underlying 26).isSome = true := by kernel_rfl
@[go_sem] theorem infS_26 : (Try.prog.info? 26).isSome = true := by kernel_rfl
@[go_sem] theorem ifaceT_26 : ifaceT Try.prog 26 = false := by kernel_rfl
@[go_sem] theorem ptrT_26 : ptrT Try.prog 26 = false := by kernel_rfl
@[go_sem] theorem zeroT_26 : zeroT Try.prog 26 = true := by kernel_rfl
@[go_sem] theorem zeroOk_26 : zeroOk Try.prog 26 = true := by kernel_rfl
@[go_sem] theorem bytesOf_26 : bytesOf Try.prog 26 = 128 := by kernel_rfl
@[go_sem] theorem zeroD_26 : zeroD Try.prog 26 = [.v (.int .i64 0), .v (.bool false), .v (.int .u8 0), .v (.int .u8 0), .v (.int .u8 0), .v (.int .u8 0), .v (.int .u8 0), .v (.int .u8 0), .v (.int .u8 0), .v (.int .u8 0), .v (.int .u8 0), .v (.int .u8 0), .v (.int .u8 0), .v (.int .u8 0), .v (.int .u8 0), .v (.int .u8 0), .v (.int .u8 0), .v (.int .u8 0), .v (.int .u8 0), .v (.int .u8 0), .v (.int .u8 0), .v (.int .u8 0), .v (.int .u8 0), .v (.int .u8 0), .v (.int .u8 0), .v (.int .u8 0), .v (.int .u8 0), .v (.int .u8 0), .v (.int .u8 0), .v (.int .u8 0), .v (.int .u8 0), .v (.int .u8 0), .v (.int .u8 0), .v (.int .u8 0), .v (.int .u8 0), .v (.int .u8 0), .v (.int .u8 0), .v (.int .u8 0), .v (.int .u8 0), .v (.int .u8 0), .v (.int .u8 0), .v (.int .u8 0), .v (.int .u8 0), .v (.int .u8 0), .v (.int .u8 0), .v (.int .u8 0), .v (.int .u8 0), .v (.int .u8 0), .v (.int .u8 0), .v (.int .u8 0), .v (.int .u8 0), .v (.int .u8 0), .v (.int .u8 0), .v (.int .u8 0), .v (.int .u8 0), .v (.int .u8 0), .v (.int .u8 0), .v (.int .u8 0), .v (.int .u8 0), .v (.int .u8 0), .v (.int .u8 0), .v (.int .u8 0), .v (.int .u8 0), .v (.int .u8 0), .v (.int .u8 0), .v (.int .u8 0), .sl .full [], .sl .full []] := by kernel_rfl
@[go_sem] theorem fld_26_0 : fld Try.prog 26 0 = some (0, 3) := by kernel_rfl
@[go_sem] theorem fld_26_1 : fld Try.prog 26 1 = some (1, 4) := by kernel_rfl
@[go_sem] theorem fld_26_2 : fld Try.prog 26 2 = some (2, 22) := by kernel_rfl
@[go_sem] theorem fld_26_3 : fld Try.prog 26 3 = some (66, 23) := by kernel_rfl
@[go_sem] theorem fld_26_4 : fld Try.prog 26 4 = some (67, 24) := by kernel_rfl
noncomputable def pl26 : Nat → Option (Nat × Nat) := (placeT Try.prog 26).getD fun _ => none
@[go_sem] theorem placeT_26 : placeT Try.prog 26 = some pl26 := by kernel_rfl
@[go_sem] theorem pl_26_0 : pl26 0 = some (0, 1) := by kernel_rfl
@[go_sem] theorem pl_26_1 : pl26 1 = some (1, 1) := by kernel_rfl
@[go_sem] theorem pl_26_2 : pl26 2 = some (2, 64) := by kernel_rfl
@[go_sem] theorem pl_26_3 : pl26 3 = some (66, 1) := by kernel_rfl
@[go_sem] theorem pl_26_4 : pl26 4 = some (67, 1) := by kernel_rfl
@[go_sem] theorem okT_29 : okT Try.prog 29 = true := by kernel_rfl
@[go_sem] theorem szOf_29 : szOf Try.prog 29 = 1 := by kernel_rfl
@[go_sem] theorem aggT_29 : aggT Try.prog 29 = false := by kernel_rfl
@[go_sem] theorem undS_29 : (Try.prog.underlying 29).isSome = true := by kernel_rfl
@[go_sem] theorem infS_29 : (Try.prog.info? 29).isSome = true := by kernel_rfl
@[go_sem] theorem ifaceT_29 : ifaceT Try.prog 29 = false := by kernel_rfl
@[go_sem] theorem ptrT_29 : ptrT Try.prog 29 = false := by kernel_rfl
@[go_sem] theorem zeroT_29 : zeroT Try.prog 29 = true := by kernel_rfl
@[go_sem] theorem zeroOk_29 : zeroOk Try.prog 29 = true := by kernel_rfl
@[go_sem] theorem bytesOf_29 : bytesOf Try.prog 29 = 24 := by kernel_rfl
@[go_sem] theorem zeroD_29 : zeroD Try.prog 29 = [.sl .full []] := by kernel_rfl
@[go_sem] theorem elT_29 : elT Try.prog 29 = some 5 := by kernel_rfl
@[go_sem] theorem bul_29 (own : Own) (es : List D) (ty : TypeId) (cs : Array Bool) : dbuiltin Try.prog .len #[29] ty cs [.sl own es] = some (True, .v (.int .i64 es.length)) := bu_len own es _ ty cs elT_29
@[go_sem] theorem bwl_29 (k off n c : Nat) (ty : TypeId) (cs : Array Bool) : dbuiltin Try.prog .len #[29] ty cs [.win k off n c] = some (True, .v (.int .i64 n)) := bu_wlen k off n c _ ty cs elT_29
@[go_sem] theorem okT_31 : okT Try.prog 31 = true := by kernel_rfl
@[go_sem] theorem szOf_31 : szOf Try.prog 31 = 1 := by kernel_rfl
@[go_sem] theorem aggT_31 : aggT Try.prog 31 = false := by kernel_rfl
@[go_sem] theorem undS_31 : (Try.prog.underlying 31).isSome = true := by kernel_rfl
@[go_sem] theorem infS_31 : (Try.prog.info? 31).isSome = true := by kernel_rfl
@[go_sem] theorem ifaceT_31 : ifaceT Try.prog 31 = true := by kernel_rfl
@[go_sem] theorem ptrT_31 : ptrT Try.prog 31 = false := by kernel_rfl
@[go_sem] theorem zeroT_31 : zeroT Try.prog 31 = true := by kernel_rfl
@[go_sem] theorem zeroOk_31 : zeroOk Try.prog 31 = true := by kernel_rfl
@[go_sem] theorem bytesOf_31 : bytesOf Try.prog 31 = 16 := by kernel_rfl
@[go_sem] theorem zeroD_31 : zeroD Try.prog 31 = [.v .nilIface] := by kernel_rfl
@[go_sem] theorem okT_36 : okT Try.prog 36 = true := by kernel_rfl
@[go_sem] theorem szOf_36 : szOf Try.prog 36 = 1 := by kernel_rfl
@[go_sem] theorem aggT_36 : aggT Try.prog 36 = false := by kernel_rfl
@[go_sem] theorem undS_36 : (Try.prog.underlying 36).isSome = true := by kernel_rfl
@[go_sem] theorem infS_36 : (Try.prog.info? 36).isSome = true := by kernel_rfl
@[go_sem] theorem ifaceT_36 : ifaceT Try.prog 36 = false := by kernel_rfl
@[go_sem] theorem ptrT_36 : ptrT Try.prog 36 = false := by kernel_rfl
@[go_sem] theorem zeroT_36 : zeroT Try.prog 36 = true := by kernel_rfl
@[go_sem] theorem zeroOk_36 : zeroOk Try.prog 36 = true := by kernel_rfl
@[go_sem] theorem bytesOf_36 : bytesOf Try.prog 36 = 24 := by kernel_rfl
@[go_sem] theorem zeroD_36 : zeroD Try.prog 36 = [.sl .full []] := by kernel_rfl
@[go_sem] theorem elT_36 : elT Try.prog 36 = some 26 := by kernel_rfl
@[go_sem] theorem bul_36 (own : Own) (es : List D) (ty : TypeId) (cs : Array Bool) : dbuiltin Try.prog .len #[36] ty cs [.sl own es] = some (True, .v (.int .i64 es.length)) := bu_len own es _ ty cs elT_36
@[go_sem] theorem bwl_36 (k off n c : Nat) (ty : TypeId) (cs : Array Bool) : dbuiltin Try.prog .len #[36] ty cs [.win k off n c] = some (True, .v (.int .i64 n)) := bu_wlen k off n c _ ty cs elT_36
@[go_sem] theorem okT_44 : okT Try.prog 44 = true := by kernel_rfl
@[go_sem] theorem szOf_44 : szOf Try.prog 44 = 32 := by kernel_rfl
@[go_sem] theorem aggT_44 : aggT Try.prog 44 = true := by kernel_rfl
@[go_sem] theorem undS_44 : (Try.prog.underlying 44).isSome = true := by kernel_rfl
@[go_sem] theorem infS_44 : (Try.prog.info? 44).isSome = true := by kernel_rfl
@[go_sem] theorem ifaceT_44 : ifaceT Try.prog 44 = false := by kernel_rfl
@[go_sem] theorem ptrT_44 : ptrT Try.prog 44 = false := by kernel_rfl
@[go_sem] theorem zeroT_44 : zeroT Try.prog 44 = true := by kernel_rfl
@[go_sem] theorem zeroOk_44 : zeroOk Try.prog 44 = true := by kernel_rfl
@[go_sem] theorem bytesOf_44 : bytesOf Try.prog 44 = 32 := by kernel_rfl
@[go_sem] theorem zeroD_44 : zeroD Try.prog 44 = [.v (.int .u8 0), .v (.int .u8 0), .v (.int .u8 0), .v (.int .u8 0), .v (.int .u8 0), .v (.int .u8 0), .v (.int .u8 0), .v (.int .u8 0), .v (.int .u8 0), .v (.int .u8 0), .v (.int .u8 0), .v (.int .u8 0), .v (.int .u8 0), .v (.int .u8 0), .v (.int .u8 0), .v (.int .u8 0), .v (.int .u8 0), .v (.int .u8 0), .v (.int .u8 0), .v (.int .u8 0), .v (.int .u8 0), .v (.int .u8 0), .v (.int .u8 0), .v (.int .u8 0), .v (.int .u8 0), .v (.int .u8 0), .v (.int .u8 0), .v (.int .u8 0), .v (.int .u8 0), .v (.int .u8 0), .v (.int .u8 0), .v (.int .u8 0)] := by kernel_rfl
@[go_sem] theorem arT_44 : arT Try.prog 44 = some (32, 5) := by kernel_rfl
@[go_sem] theorem okT_45 : okT Try.prog 45 = true := by kernel_rfl
@[go_sem] theorem szOf_45 : szOf Try.prog 45 = 1 := by kernel_rfl
@[go_sem] theorem aggT_45 : aggT Try.prog 45 = false := by kernel_rfl
@[go_sem] theorem undS_45 : (Try.prog.underlying 45).isSome = true := by kernel_rfl
@[go_sem] theorem infS_45 : (Try.prog.info? 45).isSome = true := by kernel_rfl
@[go_sem] theorem ifaceT_45 : ifaceT Try.prog 45 = false := by kernel_rfl
@[go_sem] theorem ptrT_45 : ptrT Try.prog 45 = true := by kernel_rfl
@[go_sem] theorem zeroT_45 : zeroT Try.prog 45 = true := by kernel_rfl
@[go_sem] theorem zeroOk_45 : zeroOk Try.prog 45 = true := by kernel_rfl
@[go_sem] theorem bytesOf_45 : bytesOf Try.prog 45 = 8 := by kernel_rfl
@[go_sem] theorem zeroD_45 : zeroD Try.prog 45 = [.v (.pointer none)] := by kernel_rfl
@[go_sem] theorem okT_51 : okT Try.prog 51 = true := by kernel_rfl
@[go_sem] theorem szOf_51 : szOf Try.prog 51 = 1 := by kernel_rfl
@[go_sem] theorem aggT_51 : aggT Try.prog 51 = false := by kernel_rfl
@[go_sem] theorem undS_51 : (Try.prog.underlying 51).isSome = true := by kernel_rfl
@[go_sem] theorem infS_51 : (Try.prog.info? 51).isSome = true := by kernel_rfl
@[go_sem] theorem ifaceT_51 : ifaceT Try.prog 51 = false := by kernel_rfl
@[go_sem] theorem ptrT_51 : ptrT Try.prog 51 = false := by kernel_rfl
@[go_sem] theorem zeroT_51 : zeroT Try.prog 51 = true := by kernel_rfl
@[go_sem] theorem zeroOk_51 : zeroOk Try.prog 51 = true := by kernel_rfl
@[go_sem] theorem bytesOf_51 : bytesOf Try.prog 51 = 8 := by kernel_rfl
@[go_sem] theorem zeroD_51 : zeroD Try.prog 51 = [.v (.int .i64 0)] := by kernel_rfl
@[go_sem] theorem okT_53 : okT Try.prog 53 = true := by kernel_rfl
@[go_sem] theorem szOf_53 : szOf Try.prog 53 = 1 := by kernel_rfl
@[go_sem] theorem aggT_53 : aggT Try.prog 53 = true := by kernel_rfl
@[go_sem] theorem undS_53 : (Try.prog.underlying 53).isSome = true := by kernel_rfl
@[go_sem] theorem infS_53 : (Try.prog.info? 53).isSome = true := by kernel_rfl
@[go_sem] theorem ifaceT_53 : ifaceT Try.prog 53 = false := by kernel_rfl
@[go_sem] theorem ptrT_53 : ptrT Try.prog 53 = false := by kernel_rfl
@[go_sem] theorem zeroT_53 : zeroT Try.prog 53 = true := by kernel_rfl
@[go_sem] theorem zeroOk_53 : zeroOk Try.prog 53 = true := by kernel_rfl
@[go_sem] theorem bytesOf_53 : bytesOf Try.prog 53 = 24 := by kernel_rfl
@[go_sem] theorem zeroD_53 : zeroD Try.prog 53 = [.sl .full []] := by kernel_rfl
@[go_sem] theorem fld_53_0 : fld Try.prog 53 0 = some (0, 29) := by kernel_rfl
@[go_sem] theorem okT_58 : okT Try.prog 58 = true := by kernel_rfl
@[go_sem] theorem szOf_58 : szOf Try.prog 58 = 1 := by kernel_rfl
@[go_sem] theorem aggT_58 : aggT Try.prog 58 = false := by kernel_rfl
@[go_sem] theorem undS_58 : (Try.prog.underlying 58).isSome = true := by kernel_rfl
@[go_sem] theorem infS_58 : (Try.prog.info? 58).isSome = true := by kernel_rfl
@[go_sem] theorem ifaceT_58 : ifaceT Try.prog 58 = false := by kernel_rfl
@[go_sem] theorem ptrT_58 : ptrT Try.prog 58 = false := by kernel_rfl
@[go_sem] theorem zeroT_58 : zeroT Try.prog 58 = true := by kernel_rfl
@[go_sem] theorem zeroOk_58 : zeroOk Try.prog 58 = true := by kernel_rfl
@[go_sem] theorem bytesOf_58 : bytesOf Try.prog 58 = 8 := by kernel_rfl
@[go_sem] theorem zeroD_58 : zeroD Try.prog 58 = [.v (.int .u64 0)] := by kernel_rfl
@[go_sem] theorem okT_78 : okT Try.prog 78 = true := by kernel_rfl
@[go_sem] theorem szOf_78 : szOf Try.prog 78 = 1 := by kernel_rfl
@[go_sem] theorem aggT_78 : aggT Try.prog 78 = false := by kernel_rfl
@[go_sem] theorem undS_78 : (Try.prog.underlying 78).isSome = true := by kernel_rfl
@[go_sem] theorem infS_78 : (Try.prog.info? 78).isSome = true := by kernel_rfl
@[go_sem] theorem ifaceT_78 : ifaceT Try.prog 78 = false := by kernel_rfl
@[go_sem] theorem ptrT_78 : ptrT Try.prog 78 = false := by kernel_rfl
@[go_sem] theorem zeroT_78 : zeroT Try.prog 78 = true := by kernel_rfl
@[go_sem] theorem zeroOk_78 : zeroOk Try.prog 78 = true := by kernel_rfl
@[go_sem] theorem bytesOf_78 : bytesOf Try.prog 78 = 24 := by kernel_rfl
@[go_sem] theorem zeroD_78 : zeroD Try.prog 78 = [.sl .full []] := by kernel_rfl
@[go_sem] theorem elT_78 : elT Try.prog 78 = some 83 := by kernel_rfl
@[go_sem] theorem bul_78 (own : Own) (es : List D) (ty : TypeId) (cs : Array Bool) : dbuiltin Try.prog .len #[78] ty cs [.sl own es] = some (True, .v (.int .i64 es.length)) := bu_len own es _ ty cs elT_78
@[go_sem] theorem bwl_78 (k off n c : Nat) (ty : TypeId) (cs : Array Bool) : dbuiltin Try.prog .len #[78] ty cs [.win k off n c] = some (True, .v (.int .i64 n)) := bu_wlen k off n c _ ty cs elT_78
@[go_sem] theorem okT_80 : okT Try.prog 80 = true := by kernel_rfl
@[go_sem] theorem szOf_80 : szOf Try.prog 80 = 2 := by kernel_rfl
@[go_sem] theorem aggT_80 : aggT Try.prog 80 = true := by kernel_rfl
@[go_sem] theorem undS_80 : (Try.prog.underlying 80).isSome = true := by kernel_rfl
@[go_sem] theorem infS_80 : (Try.prog.info? 80).isSome = true := by kernel_rfl
@[go_sem] theorem ifaceT_80 : ifaceT Try.prog 80 = false := by kernel_rfl
@[go_sem] theorem ptrT_80 : ptrT Try.prog 80 = false := by kernel_rfl
@[go_sem] theorem zeroT_80 : zeroT Try.prog 80 = true := by kernel_rfl
@[go_sem] theorem zeroOk_80 : zeroOk Try.prog 80 = true := by kernel_rfl
@[go_sem] theorem bytesOf_80 : bytesOf Try.prog 80 = 32 := by kernel_rfl
@[go_sem] theorem zeroD_80 : zeroD Try.prog 80 = [.sl .full [], .v (.int .i64 0)] := by kernel_rfl
@[go_sem] theorem fld_80_0 : fld Try.prog 80 0 = some (0, 78) := by kernel_rfl
@[go_sem] theorem fld_80_1 : fld Try.prog 80 1 = some (1, 3) := by kernel_rfl
@[go_sem] theorem okT_81 : okT Try.prog 81 = true := by kernel_rfl
@[go_sem] theorem szOf_81 : szOf Try.prog 81 = 1 := by kernel_rfl
@[go_sem] theorem aggT_81 : aggT Try.prog 81 = false := by kernel_rfl
@[go_sem] theorem undS_81 : (Try.prog.underlying 81).isSome = true := by kernel_rfl
@[go_sem] theorem infS_81 : (Try.prog.info? 81).isSome = true := by kernel_rfl
@[go_sem] theorem ifaceT_81 : ifaceT Try.prog 81 = false := by kernel_rfl
@[go_sem] theorem ptrT_81 : ptrT Try.prog 81 = false := by kernel_rfl
@[go_sem] theorem zeroT_81 : zeroT Try.prog 81 = true := by kernel_rfl
@[go_sem] theorem zeroOk_81 : zeroOk Try.prog 81 = true := by kernel_rfl
@[go_sem] theorem bytesOf_81 : bytesOf Try.prog 81 = 8 := by kernel_rfl
@[go_sem] theorem zeroD_81 : zeroD Try.prog 81 = [.v .nilFunc] := by kernel_rfl
@[go_sem] theorem okT_83 : okT Try.prog 83 = true := by kernel_rfl
@[go_sem] theorem szOf_83 : szOf Try.prog 83 = 34 := by kernel_rfl
@[go_sem] theorem aggT_83 : aggT Try.prog 83 = true := by kernel_rfl
@[go_sem] theorem undS_83 : (Try.prog.underlying 83).isSome = true := by kernel_rfl
@[go_sem] theorem infS_83 : (Try.prog.info? 83).isSome = true := by kernel_rfl
@[go_sem] theorem ifaceT_83 : ifaceT Try.prog 83 = false := by kernel_rfl
@[go_sem] theorem ptrT_83 : ptrT Try.prog 83 = false := by kernel_rfl
@[go_sem] theorem zeroT_83 : zeroT Try.prog 83 = true := by kernel_rfl
@[go_sem] theorem zeroOk_83 : zeroOk Try.prog 83 = true := by kernel_rfl
@[go_sem] theorem bytesOf_83 : bytesOf Try.prog 83 = 80 := by kernel_rfl
@[go_sem] theorem zeroD_83 : zeroD Try.prog 83 = [.v (.int .u8 0), .v (.int .u8 0), .v (.int .u8 0), .v (.int .u8 0), .v (.int .u8 0), .v (.int .u8 0), .v (.int .u8 0), .v (.int .u8 0), .v (.int .u8 0), .v (.int .u8 0), .v (.int .u8 0), .v (.int .u8 0), .v (.int .u8 0), .v (.int .u8 0), .v (.int .u8 0), .v (.int .u8 0), .v (.int .u8 0), .v (.int .u8 0), .v (.int .u8 0), .v (.int .u8 0), .v (.int .u8 0), .v (.int .u8 0), .v (.int .u8 0), .v (.int .u8 0), .v (.int .u8 0), .v (.int .u8 0), .v (.int .u8 0), .v (.int .u8 0), .v (.int .u8 0), .v (.int .u8 0), .v (.int .u8 0), .v (.int .u8 0), .sl .full [], .sl .full []] := by kernel_rfl
@[go_sem] theorem fld_83_0 : fld Try.prog 83 0 = some (0, 44) := by kernel_rfl
@[go_sem] theorem fld_83_1 : fld Try.prog 83 1 = some (32, 29) := by kernel_rfl
@[go_sem] theorem fld_83_2 : fld Try.prog 83 2 = some (33, 23) := by kernel_rfl
@[go_sem] theorem okT_85 : okT Try.prog 85 = true := by kernel_rfl
@[go_sem] theorem szOf_85 : szOf Try.prog 85 = 1 := by kernel_rfl
@[go_sem] theorem aggT_85 : aggT Try.prog 85 = false := by kernel_rfl
@[go_sem] theorem undS_85 : (Try.prog.underlying 85).isSome = true := by kernel_rfl
@[go_sem] theorem infS_85 : (Try.prog.info? 85).isSome = true := by kernel_rfl
@[go_sem] theorem ifaceT_85 : ifaceT Try.prog 85 = false := by kernel_rfl
@[go_sem] theorem ptrT_85 : ptrT Try.prog 85 = true := by kernel_rfl
@[go_sem] theorem zeroT_85 : zeroT Try.prog 85 = true := by kernel_rfl
@[go_sem] theorem zeroOk_85 : zeroOk Try.prog 85 = true := by kernel_rfl
@[go_sem] theorem bytesOf_85 : bytesOf Try.prog 85 = 8 := by kernel_rfl
@[go_sem] theorem zeroD_85 : zeroD Try.prog 85 = [.v (.pointer none)] := by kernel_rfl
@[go_sem] theorem okT_88 : okT Try.prog 88 = true := by kernel_rfl
@[go_sem] theorem szOf_88 : szOf Try.prog 88 = 1 := by kernel_rfl
@[go_sem] theorem aggT_88 : aggT Try.prog 88 = false := by kernel_rfl
@[go_sem] theorem undS_88 : (Try.prog.underlying 88).isSome = true := by kernel_rfl
@[go_sem] theorem infS_88 : (Try.prog.info? 88).isSome = true := by kernel_rfl
@[go_sem] theorem ifaceT_88 : ifaceT Try.prog 88 = false := by kernel_rfl
@[go_sem] theorem ptrT_88 : ptrT Try.prog 88 = false := by kernel_rfl
@[go_sem] theorem zeroT_88 : zeroT Try.prog 88 = true := by kernel_rfl
@[go_sem] theorem zeroOk_88 : zeroOk Try.prog 88 = true := by kernel_rfl
@[go_sem] theorem bytesOf_88 : bytesOf Try.prog 88 = 8 := by kernel_rfl
@[go_sem] theorem zeroD_88 : zeroD Try.prog 88 = [.v .nilFunc] := by kernel_rfl
@[go_sem] theorem okT_89 : okT Try.prog 89 = true := by kernel_rfl
@[go_sem] theorem szOf_89 : szOf Try.prog 89 = 1 := by kernel_rfl
@[go_sem] theorem aggT_89 : aggT Try.prog 89 = false := by kernel_rfl
@[go_sem] theorem undS_89 : (Try.prog.underlying 89).isSome = true := by kernel_rfl
@[go_sem] theorem infS_89 : (Try.prog.info? 89).isSome = true := by kernel_rfl
@[go_sem] theorem ifaceT_89 : ifaceT Try.prog 89 = false := by kernel_rfl
@[go_sem] theorem ptrT_89 : ptrT Try.prog 89 = true := by kernel_rfl
@[go_sem] theorem zeroT_89 : zeroT Try.prog 89 = true := by kernel_rfl
@[go_sem] theorem zeroOk_89 : zeroOk Try.prog 89 = true := by kernel_rfl
@[go_sem] theorem bytesOf_89 : bytesOf Try.prog 89 = 8 := by kernel_rfl
@[go_sem] theorem zeroD_89 : zeroD Try.prog 89 = [.v (.pointer none)] := by kernel_rfl
@[go_sem] theorem okT_90 : okT Try.prog 90 = true := by kernel_rfl
@[go_sem] theorem szOf_90 : szOf Try.prog 90 = 1 := by kernel_rfl
@[go_sem] theorem aggT_90 : aggT Try.prog 90 = false := by kernel_rfl
@[go_sem] theorem undS_90 : (Try.prog.underlying 90).isSome = true := by kernel_rfl
@[go_sem] theorem infS_90 : (Try.prog.info? 90).isSome = true := by kernel_rfl
@[go_sem] theorem ifaceT_90 : ifaceT Try.prog 90 = false := by kernel_rfl
@[go_sem] theorem ptrT_90 : ptrT Try.prog 90 = false := by kernel_rfl
@[go_sem] theorem zeroT_90 : zeroT Try.prog 90 = true := by kernel_rfl
@[go_sem] theorem zeroOk_90 : zeroOk Try.prog 90 = true := by kernel_rfl
@[go_sem] theorem bytesOf_90 : bytesOf Try.prog 90 = 8 := by kernel_rfl
@[go_sem] theorem zeroD_90 : zeroD Try.prog 90 = [.v (.int .u64 0)] := by kernel_rfl
@[go_sem] theorem okT_93 : okT Try.prog 93 = true := by kernel_rfl
@[go_sem] theorem szOf_93 : szOf Try.prog 93 = 1 := by kernel_rfl
@[go_sem] theorem aggT_93 : aggT Try.prog 93 = false := by kernel_rfl
@[go_sem] theorem undS_93 : (Try.prog.underlying 93).isSome = true := by kernel_rfl
@[go_sem] theorem infS_93 : (Try.prog.info? 93).isSome = true := by kernel_rfl
@[go_sem] theorem ifaceT_93 : ifaceT Try.prog 93 = false := by kernel_rfl
@[go_sem] theorem ptrT_93 : ptrT Try.prog 93 = false := by kernel_rfl
@[go_sem] theorem zeroT_93 : zeroT Try.prog 93 = true := by kernel_rfl
@[go_sem] theorem zeroOk_93 : zeroOk Try.prog 93 = true := by kernel_rfl
@[go_sem] theorem bytesOf_93 : bytesOf Try.prog 93 = 8 := by kernel_rfl
@[go_sem] theorem zeroD_93 : zeroD Try.prog 93 = [.v .nilFunc] := by kernel_rfl
@[go_sem] theorem okT_94 : okT Try.prog 94 = true := by kernel_rfl
@[go_sem] theorem szOf_94 : szOf Try.prog 94 = 1 := by kernel_rfl
@[go_sem] theorem aggT_94 : aggT Try.prog 94 = false := by kernel_rfl
@[go_sem] theorem undS_94 : (Try.prog.underlying 94).isSome = true := by kernel_rfl
@[go_sem] theorem infS_94 : (Try.prog.info? 94).isSome = true := by kernel_rfl
@[go_sem] theorem ifaceT_94 : ifaceT Try.prog 94 = false := by kernel_rfl
@[go_sem] theorem ptrT_94 : ptrT Try.prog 94 = false := by kernel_rfl
@[go_sem] theorem zeroT_94 : zeroT Try.prog 94 = true := by kernel_rfl
@[go_sem] theorem zeroOk_94 : zeroOk Try.prog 94 = true := by kernel_rfl
@[go_sem] theorem bytesOf_94 : bytesOf Try.prog 94 = 24 := by kernel_rfl
@[go_sem] theorem zeroD_94 : zeroD Try.prog 94 = [.sl .full []] := by kernel_rfl
@[go_sem] theorem elT_94 : elT Try.prog 94 = some 96 := by kernel_rfl
@[go_sem] theorem bul_94 (own : Own) (es : List D) (ty : TypeId) (cs : Array Bool) : dbuiltin Try.prog .len #[94] ty cs [.sl own es] = some (True, .v (.int .i64 es.length)) := bu_len own es _ ty cs elT_94
@[go_sem] theorem bwl_94 (k off n c : Nat) (ty : TypeId) (cs : Array Bool) : dbuiltin Try.prog .len #[94] ty cs [.win k off n c] = some (True, .v (.int .i64 n)) := bu_wlen k off n c _ ty cs elT_94
@[go_sem] theorem okT_96 : okT Try.prog 96 = true := by kernel_rfl
@[go_sem] theorem szOf_96 : szOf Try.prog 96 = 33 := by kernel_rfl
@[go_sem] theorem aggT_96 : aggT Try.prog 96 = true := by kernel_rfl
@[go_sem] theorem undS_96 : (Try.prog.underlying 96).isSome = true := by kernel_rfl
@[go_sem] theorem infS_96 : (Try.prog.info? 96).isSome = true := by kernel_rfl
@[go_sem] theorem ifaceT_96 : ifaceT Try.prog 96 = false := by kernel_rfl
@[go_sem] theorem ptrT_96 : ptrT Try.prog 96 = false := by kernel_rfl
@[go_sem] theorem zeroT_96 : zeroT Try.prog 96 = true := by kernel_rfl
@[go_sem] theorem zeroOk_96 : zeroOk Try.prog 96 = true := by kernel_rfl
@[go_sem] theorem bytesOf_96 : bytesOf Try.prog 96 = 40 := by kernel_rfl
@[go_sem] theorem zeroD_96 : zeroD Try.prog 96 = [.v (.int .i64 0), .v (.int .u8 0), .v (.int .u8 0), .v (.int .u8 0), .v (.int .u8 0), .v (.int .u8 0), .v (.int .u8 0), .v (.int .u8 0), .v (.int .u8 0), .v (.int .u8 0), .v (.int .u8 0), .v (.int .u8 0), .v (.int .u8 0), .v (.int .u8 0), .v (.int .u8 0), .v (.int .u8 0), .v (.int .u8 0), .v (.int .u8 0), .v (.int .u8 0), .v (.int .u8 0), .v (.int .u8 0), .v (.int .u8 0), .v (.int .u8 0), .v (.int .u8 0), .v (.int .u8 0), .v (.int .u8 0), .v (.int .u8 0), .v (.int .u8 0), .v (.int .u8 0), .v (.int .u8 0), .v (.int .u8 0), .v (.int .u8 0), .v (.int .u8 0)] := by kernel_rfl
@[go_sem] theorem fld_96_0 : fld Try.prog 96 0 = some (0, 3) := by kernel_rfl
@[go_sem] theorem fld_96_1 : fld Try.prog 96 1 = some (1, 44) := by kernel_rfl
noncomputable def pl96 : Nat → Option (Nat × Nat) := (placeT Try.prog 96).getD fun _ => none
@[go_sem] theorem placeT_96 : placeT Try.prog 96 = some pl96 := by kernel_rfl
@[go_sem] theorem pl_96_0 : pl96 0 = some (0, 1) := by kernel_rfl
@[go_sem] theorem pl_96_1 : pl96 1 = some (1, 32) := by kernel_rfl
@[go_sem] theorem okT_99 : okT Try.prog 99 = true := by kernel_rfl
@[go_sem] theorem szOf_99 : szOf Try.prog 99 = 1 := by kernel_rfl
@[go_sem] theorem aggT_99 : aggT Try.prog 99 = false := by kernel_rfl
@[go_sem] theorem undS_99 : (Try.prog.underlying 99).isSome = true := by kernel_rfl
@[go_sem] theorem infS_99 : (Try.prog.info? 99).isSome = true := by kernel_rfl
@[go_sem] theorem ifaceT_99 : ifaceT Try.prog 99 = false := by kernel_rfl
@[go_sem] theorem ptrT_99 : ptrT Try.prog 99 = false := by kernel_rfl
@[go_sem] theorem zeroT_99 : zeroT Try.prog 99 = true := by kernel_rfl
@[go_sem] theorem zeroOk_99 : zeroOk Try.prog 99 = true := by kernel_rfl
@[go_sem] theorem bytesOf_99 : bytesOf Try.prog 99 = 8 := by kernel_rfl
@[go_sem] theorem zeroD_99 : zeroD Try.prog 99 = [.v .nilFunc] := by kernel_rfl
@[go_sem] theorem okT_101 : okT Try.prog 101 = true := by kernel_rfl
@[go_sem] theorem szOf_101 : szOf Try.prog 101 = 1 := by kernel_rfl
@[go_sem] theorem aggT_101 : aggT Try.prog 101 = false := by kernel_rfl
@[go_sem] theorem undS_101 : (Try.prog.underlying 101).isSome = true := by kernel_rfl
@[go_sem] theorem infS_101 : (Try.prog.info? 101).isSome = true := by kernel_rfl
@[go_sem] theorem ifaceT_101 : ifaceT Try.prog 101 = false := by kernel_rfl
@[go_sem] theorem ptrT_101 : ptrT Try.prog 101 = false := by kernel_rfl
@[go_sem] theorem zeroT_101 : zeroT Try.prog 101 = true := by kernel_rfl
@[go_sem] theorem zeroOk_101 : zeroOk Try.prog 101 = true := by kernel_rfl
@[go_sem] theorem bytesOf_101 : bytesOf Try.prog 101 = 8 := by kernel_rfl
@[go_sem] theorem zeroD_101 : zeroD Try.prog 101 = [.v .nilFunc] := by kernel_rfl
@[go_sem] theorem okT_105 : okT Try.prog 105 = true := by kernel_rfl
@[go_sem] theorem szOf_105 : szOf Try.prog 105 = 1 := by kernel_rfl
@[go_sem] theorem aggT_105 : aggT Try.prog 105 = false := by kernel_rfl
@[go_sem] theorem undS_105 : (Try.prog.underlying 105).isSome = true := by kernel_rfl
@[go_sem] theorem infS_105 : (Try.prog.info? 105).isSome = true := by kernel_rfl
@[go_sem] theorem ifaceT_105 : ifaceT Try.prog 105 = false := by kernel_rfl
@[go_sem] theorem ptrT_105 : ptrT Try.prog 105 = false := by kernel_rfl
@[go_sem] theorem zeroT_105 : zeroT Try.prog 105 = true := by kernel_rfl
@[go_sem] theorem zeroOk_105 : zeroOk Try.prog 105 = true := by kernel_rfl
@[go_sem] theorem bytesOf_105 : bytesOf Try.prog 105 = 8 := by kernel_rfl
@[go_sem] theorem zeroD_105 : zeroD Try.prog 105 = [.v .nilFunc] := by kernel_rfl
@[go_sem] theorem okT_106 : okT Try.prog 106 = true := by kernel_rfl
@[go_sem] theorem szOf_106 : szOf Try.prog 106 = 1 := by kernel_rfl
@[go_sem] theorem aggT_106 : aggT Try.prog 106 = false := by kernel_rfl
@[go_sem] theorem undS_106 : (Try.prog.underlying 106).isSome = true := by kernel_rfl
@[go_sem] theorem infS_106 : (Try.prog.info? 106).isSome = true := by kernel_rfl
@[go_sem] theorem ifaceT_106 : ifaceT Try.prog 106 = false := by kernel_rfl
@[go_sem] theorem ptrT_106 : ptrT Try.prog 106 = false := by kernel_rfl
@[go_sem] theorem zeroT_106 : zeroT Try.prog 106 = true := by kernel_rfl
@[go_sem] theorem zeroOk_106 : zeroOk Try.prog 106 = true := by kernel_rfl
@[go_sem] theorem bytesOf_106 : bytesOf Try.prog 106 = 24 := by kernel_rfl
@[go_sem] theorem zeroD_106 : zeroD Try.prog 106 = [.sl .full []] := by kernel_rfl
@[go_sem] theorem elT_106 : elT Try.prog 106 = some 23 := by kernel_rfl
@[go_sem] theorem bul_106 (own : Own) (es : List D) (ty : TypeId) (cs : Array Bool) : dbuiltin Try.prog .len #[106] ty cs [.sl own es] = some (True, .v (.int .i64 es.length)) := bu_len own es _ ty cs elT_106
@[go_sem] theorem bwl_106 (k off n c : Nat) (ty : TypeId) (cs : Array Bool) : dbuiltin Try.prog .len #[106] ty cs [.win k off n c] = some (True, .v (.int .i64 n)) := bu_wlen k off n c _ ty cs elT_106
@[go_sem] theorem okT_108 : okT Try.prog 108 = true := by kernel_rfl
@[go_sem] theorem szOf_108 : szOf Try.prog 108 = 1 := by kernel_rfl
@[go_sem] theorem aggT_108 : aggT Try.prog 108 = false := by kernel_rfl
@[go_sem] theorem undS_108 : (Try.prog.underlying 108).isSome = true := by kernel_rfl
@[go_sem] theorem infS_108 : (Try.prog.info? 108).isSome = true := by kernel_rfl
@[go_sem] theorem ifaceT_108 : ifaceT Try.prog 108 = false := by kernel_rfl
@[go_sem] theorem ptrT_108 : ptrT Try.prog 108 = false := by kernel_rfl
@[go_sem] theorem zeroT_108 : zeroT Try.prog 108 = true := by kernel_rfl
@[go_sem] theorem zeroOk_108 : zeroOk Try.prog 108 = true := by kernel_rfl
@[go_sem] theorem bytesOf_108 : bytesOf Try.prog 108 = 8 := by kernel_rfl
@[go_sem] theorem zeroD_108 : zeroD Try.prog 108 = [.v .nilFunc] := by kernel_rfl
@[go_sem] theorem okT_117 : okT Try.prog 117 = true := by kernel_rfl
@[go_sem] theorem szOf_117 : szOf Try.prog 117 = 1 := by kernel_rfl
@[go_sem] theorem aggT_117 : aggT Try.prog 117 = false := by kernel_rfl
@[go_sem] theorem undS_117 : (Try.prog.underlying 117).isSome = true := by kernel_rfl
@[go_sem] theorem infS_117 : (Try.prog.info? 117).isSome = true := by kernel_rfl
@[go_sem] theorem ifaceT_117 : ifaceT Try.prog 117 = false := by kernel_rfl
@[go_sem] theorem ptrT_117 : ptrT Try.prog 117 = false := by kernel_rfl
@[go_sem] theorem zeroT_117 : zeroT Try.prog 117 = true := by kernel_rfl
@[go_sem] theorem zeroOk_117 : zeroOk Try.prog 117 = true := by kernel_rfl
@[go_sem] theorem bytesOf_117 : bytesOf Try.prog 117 = 8 := by kernel_rfl
@[go_sem] theorem zeroD_117 : zeroD Try.prog 117 = [.v (.int .i64 0)] := by kernel_rfl
@[go_sem] theorem okT_125 : okT Try.prog 125 = true := by kernel_rfl
@[go_sem] theorem szOf_125 : szOf Try.prog 125 = 1 := by kernel_rfl
@[go_sem] theorem aggT_125 : aggT Try.prog 125 = false := by kernel_rfl
@[go_sem] theorem undS_125 : (Try.prog.underlying 125).isSome = true := by kernel_rfl
@[go_sem] theorem infS_125 : (Try.prog.info? 125).isSome = true := by kernel_rfl
@[go_sem] theorem ifaceT_125 : ifaceT Try.prog 125 = false := by kernel_rfl
@[go_sem] theorem ptrT_125 : ptrT Try.prog 125 = false := by kernel_rfl
@[go_sem] theorem zeroT_125 : zeroT Try.prog 125 = true := by kernel_rfl
@[go_sem] theorem zeroOk_125 : zeroOk Try.prog 125 = true := by kernel_rfl
@[go_sem] theorem bytesOf_125 : bytesOf Try.prog 125 = 4 := by kernel_rfl
@[go_sem] theorem zeroD_125 : zeroD Try.prog 125 = [.v (.int .u32 0)] := by kernel_rfl
@[go_sem] theorem okT_129 : okT Try.prog 129 = true := by kernel_rfl
@[go_sem] theorem szOf_129 : szOf Try.prog 129 = 1 := by kernel_rfl
@[go_sem] theorem aggT_129 : aggT Try.prog 129 = false := by kernel_rfl
@[go_sem] theorem undS_129 : (Try.prog.underlying 129).isSome = true := by kernel_rfl
@[go_sem] theorem infS_129 : (Try.prog.info? 129).isSome = true := by kernel_rfl
@[go_sem] theorem ifaceT_129 : ifaceT Try.prog 129 = false := by kernel_rfl
@[go_sem] theorem ptrT_129 : ptrT Try.prog 129 = false := by kernel_rfl
@[go_sem] theorem zeroT_129 : zeroT Try.prog 129 = true := by kernel_rfl
@[go_sem] theorem zeroOk_129 : zeroOk Try.prog 129 = true := by kernel_rfl
@[go_sem] theorem bytesOf_129 : bytesOf Try.prog 129 = 8 := by kernel_rfl
@[go_sem] theorem zeroD_129 : zeroD Try.prog 129 = [.v (.int .u64 0)] := by kernel_rfl
@[go_sem] theorem okT_133 : okT Try.prog 133 = true := by kernel_rfl
@[go_sem] theorem szOf_133 : szOf Try.prog 133 = 1 := by kernel_rfl
@[go_sem] theorem aggT_133 : aggT Try.prog 133 = false := by kernel_rfl
@[go_sem] theorem undS_133 : (Try.prog.underlying 133).isSome = true := by kernel_rfl
@[go_sem] theorem infS_133 : (Try.prog.info? 133).isSome = true := by kernel_rfl
@[go_sem] theorem ifaceT_133 : ifaceT Try.prog 133 = false := by kernel_rfl
@[go_sem] theorem ptrT_133 : ptrT Try.prog 133 = true := by kernel_rfl
@[go_sem] theorem zeroT_133 : zeroT Try.prog 133 = true := by kernel_rfl
@[go_sem] theorem zeroOk_133 : zeroOk Try.prog 133 = true := by kernel_rfl
@[go_sem] theorem bytesOf_133 : bytesOf Try.prog 133 = 8 := by kernel_rfl
@[go_sem] theorem zeroD_133 : zeroD Try.prog 133 = [.v (.pointer none)] := by kernel_rfl
theorem mixed : Try.prog.follows .mixedOrders = true := by kernel_rfl
end Go.Proofs.Ytonncfminojejaa

namespace Go.Proofs.Ytonncfminojejaa
open Go.RowKit

theorem ob_hit {S : St} {o : Ob} {k : Nat} (h : k = S.next) : (S.add o).ob k = some o := by rw [add_ob, if_pos h]
theorem ob_skip {S : St} {o : Ob} {k : Nat} (h : k ≠ S.next) : (S.add o).ob k = S.ob k := by rw [add_ob, if_neg h]
theorem ob_set {S : St} {o : Ob} {k j : Nat} (h : j = k) : (S.set k o).ob j = some o := by rw [set_ob, if_pos h]
theorem ob_old {S : St} {o : Ob} {k j : Nat} (h : j ≠ k) : (S.set k o).ob j = S.ob j := by rw [set_ob, if_neg h]
theorem drop_next (S : St) (g : Nat) : (S.drop g).next = S.next := Eq.trans (Eq.refl _) (Eq.refl _)
theorem ob_drop {S : St} {g k : Nat} (h : k ≠ g) : (S.drop g).ob k = S.ob k := by simp only [St.drop, if_neg h]
theorem int_zero : ((0 : Nat) : Int) = 0 := Eq.trans (Eq.refl _) (Eq.refl _)
attribute [go_sem] ob_hit ob_skip ob_set ob_old ob_drop drop_next getD_map Int.natCast_nonneg int_zero beq_self_eq_true Int.toNat_zero List.range_zero List.mem_cons List.not_mem_nil or_false forall_eq forall_eq_or_imp false_implies implies_true Option.isSome_some bnd or_true Int.toNat_one Int.le_refl ge_iff_le gt_iff_lt Nat.sub_zero
theorem cells_win_ (k off n c : Nat) : (D.win k off n c).cells = [D.win k off n c] := Eq.trans (Eq.refl _) (Eq.refl _)
theorem okCell_win_ (k off n c : Nat) : (D.win k off n c).okCell = true := Eq.trans (Eq.refl _) (Eq.refl _)
attribute [go_sem] cells_win_ okCell_win_
/-! What is written. -/
def dstOk (W : Nat → Bool) : Option Tmp → Bool
  | none => true
  | some t => W t
def wrOk (W : Nat → Bool) : Code → Bool
  | .region _ ops _ => ops.all fun o => dstOk W o.dst
  | .seq x y => wrOk W x && wrOk W y
  | .cond _ x y => wrOk W x && wrOk W y
  | .block _ c => wrOk W c
  | .loop c => wrOk W c
  | _ => true
def Off (W : Nat → Bool) (f f' : Fm) : Prop := ∀ t, W t = false → f' t = f t
theorem Off.refl (W : Nat → Bool) (f : Fm) : Off W f f := fun _ _ => rfl
theorem Off.trans {W : Nat → Bool} {f g h : Fm} (a : Off W f g) (b : Off W g h) : Off W f h := fun t ht => (b t ht).trans (a t ht)
theorem Off.put {W : Nat → Bool} {f g : Fm} (a : Off W f g) {dst : Option Tmp} (hd : dstOk W dst = true) (d : D) : Off W f (put g dst d) := fun t ht => by
  rw [put_same (fun e => by subst e; simp only [dstOk] at hd; rw [hd] at ht; cases ht)]
  exact a t ht
theorem St.WF.add {S : St} (h : S.WF) (o : Ob) : (S.add o).WF := fun k hk => by
  have hk' : S.next + 1 ≤ k := hk
  simp only [St.add]
  rw [if_neg (by omega)]
  exact h k (by omega)
theorem St.WF.set {S : St} (h : S.WF) {k : Nat} (hk : k < S.next) (o : Ob) : (S.set k o).WF := fun j hj => by
  have hj' : S.next ≤ j := hj
  simp only [St.set]
  rw [if_neg (by omega)]
  exact h j hj'
theorem St.WF.drop {S : St} (h : S.WF) (g : Nat) : (S.drop g).WF := fun j hj => by
  have hj' : S.next ≤ j := hj
  simp only [St.drop]
  split
  · rfl
  · exact h j hj'
theorem St.WF.leave {S : St} (h : S.WF) (o : Own) : (S.leave o).WF := by
  cases o with
  | row g => exact h.drop g
  | no => exact h
  | full => exact h
theorem St.WF.grow {S : St} (h : S.WF) (o : Own) (e : TypeId) (n : Nat) : (S.grow o e n).WF := (h.leave o).add _
theorem St.WF.keep {S : St} (h : S.WF) {n : Nat} (hn : S.next ≤ n) : (St.mk n S.ob).WF := fun k hk => h k (Nat.le_trans hn hk)
theorem St.Sub.keep {S T : St} (h : S.Sub T) {n : Nat} (hn : T.next ≤ n) : S.Sub ⟨n, T.ob⟩ := ⟨Nat.le_trans h.next hn, h.ob⟩
theorem St.Sub.trans {A B C : St} (h : A.Sub B) (k : B.Sub C) : A.Sub C := ⟨Nat.le_trans h.next k.next, fun i o hi => k.ob i o (h.ob i o hi)⟩
theorem DCalls.wf {P : Program} {g : FuncId} {args : List D} {S : St} {K : D → St → Prop} (h : DCalls P g args S K) : DCalls P g args S fun d S' => K d S' ∧ S'.WF := fun base η w vs hM hr => by
  rcases h base η w vs hM hr with ⟨h1, h2⟩ | ⟨d, S', η', v, w', h1, h2, h3, h4⟩
  · exact .inl ⟨h1, h2.mono fun _ _ ⟨d, S', η', v, h1, h2, h3, h4⟩ => ⟨d, S', η', v, ⟨h1, h4.mem.fresh⟩, h2, h3, h4⟩⟩
  · exact .inr ⟨d, S', η', v, w', h1, ⟨h2, h4.mem.fresh⟩, h3, h4⟩
theorem DRun.wf {P : Program} {run : List Value → Sem Value} {args : List D} {S : St} {K : D → St → Prop} (h : DRun P run args S K) : DRun P run args S fun d S' => K d S' ∧ S'.WF := fun base η w vs hM hr => by
  obtain ⟨d, S', η', v, w', h1, h2, h3, h4⟩ := h base η w vs hM hr
  exact ⟨d, S', η', v, w', h1, ⟨h2, h4.mem.fresh⟩, h3, h4⟩
theorem onVal_and {o : Option (Prop × D)} {K : D → Prop} {p : Prop} (hp : p) (h : onVal o K) : onVal o fun d => K d ∧ p := onVal_mono (fun _ hd => ⟨hd, hp⟩) h
section
variable {P : Program} {W : Nat → Bool}
theorem dop_more {f : Fm} {S : St} {ty : TypeId} {op : Op} {K : D → St → Prop} (hS : S.WF) (ho : dop P f S ty op K) : dop P f S ty op fun d S' => K d S' ∧ S'.WF := by
  cases op with
  | alloc t => simp only [dop] at *; exact ⟨ho.1, ho.2, hS.add _⟩
  | box t x => simp only [dop] at *; exact ⟨ho.1, ho.2, hS.add _⟩
  | store t x y =>
    simp only [dop] at *
    split at ho
    · split at ho
      · rename_i k off _ _ t' cs hk
        exact ⟨ho.1, ho.2.1, ho.2.2.1, ho.2.2.2.1, ho.2.2.2.2, hS.set (hS.lt hk) _⟩
      · exact ho
    · exact ho
  | call cl =>
    obtain ⟨callee, args, ts⟩ := cl
    cases callee with
    | value x =>
      simp only [dop] at *
      split at ho
      · exact ho.wf
      · exact ho
    | invoke r m =>
      simp only [dop] at *
      split at ho
      · obtain ⟨g, d', h1, h2⟩ := ho
        exact ⟨g, d', h1, h2.wf⟩
      · exact ho
    | builtin b =>
      by_cases hb : b = .append
      · subst hb
        simp only [dop] at *
        split at ho
        · split at ho
          · rcases ho with ⟨k1, k2, k3, k4, k5, k6, k7, k8⟩ | ⟨k1, k2, k3, k4, k5, k6, k7, k8, k9, k10⟩ | ho
            · exact .inl ⟨k1, k2, k3, k4, k5, k6, k7, k8, hS.grow _ _ _⟩
            · exact .inr (.inl ⟨k1, k2, k3, k4, k5, k6, k7, k8, k9, fun c zs e1 e2 => ⟨k10 c zs e1 e2, hS.add _⟩⟩)
            · exact .inr (.inr ho.wf)
          · exact ho
        · exact ho.wf
        · exact ho.wf
        · exact ho.wf
        · exact ho
      · cases b <;> first | exact absurd rfl hb | (simp only [dop] at *; exact onVal_and hS ho) | exact DRun.wf ho
  | makeSlice t x y => exact DRun.wf ho
  | typeAssert x xt t ok => exact DRun.wf ho
  | lookup t x i ok => exact DRun.wf ho
  | makeMap t r => exact DRun.wf ho
  | mapUpdate t m k x => exact (DRun.wf ho).mono fun d S' hd => ⟨hd.1.1, hd.1.2, hd.2⟩
  | insert t m k x => exact (DRun.wf ho).mono fun d S' hd => ⟨hd.1.1, hd.1.2, hd.2⟩
  | _ => simp only [dop] at *; exact onVal_and hS ho
theorem dops_more_n {ops : Array Oper} {Q : Fm → St → Prop} : ∀ (n : Nat) (l : List Oper), l.length ≤ n → (∀ o ∈ l, dstOk W o.dst = true) → ∀ {f : Fm} {S : St}, S.WF → dops P ops Q l f S → dops P ops (fun f' S' => Q f' S' ∧ S'.WF ∧ Off W f f') l f S
  | _, [], _, _, f, S, hS, h => ⟨h, hS, Off.refl W f⟩
  | 0, o :: l, hn, _, _, _, _, _ => absurd hn (by simp)
  | n + 1, o :: l, hln, hw, f, S, hS, h => by
    simp only [List.length_cons] at hln
    rw [dops_cons] at h
    rw [dops_cons]
    have h1 := hw o (by simp)
    have h2 : ∀ o' ∈ l, dstOk W o'.dst = true := fun o' ho => hw o' (by simp [ho])
    refine dwanted_mono (fun hy => dbs_mono (fun hy => ?_) (fun hB => ?_) hy) (fun hn => ?_) h
    · refine dop_mono (fun d S' hk => ?_) (dop_more hS hy)
      refine dops_mono (fun f' S'' hq => ?_) l (dops_more_n n l (by omega) h2 hk.2 hk.1)
      exact ⟨hq.1, hq.2.1, (Off.put (Off.refl W f) h1 d).trans hq.2.2⟩
    · obtain ⟨dst, op, ty, pos, after, guard⟩ := o
      cases op with
      | buildSlice t m ps =>
        cases l with
        | nil => exact hB.elim
        | cons o2 r2 =>
          obtain ⟨e, bs, k, b1, b2, b3, b4, b5, b6, b7, b8, b9, b10⟩ := hB
          refine ⟨e, bs, k, b1, b2, b3, b4, b5, b6, b7, b8, b9, dwanted_mono (fun hq => ?_) (fun x => x) b10⟩
          have h3 := h2 o2 (by simp)
          refine dops_mono (fun f' S'' hq => ?_) r2 (dops_more_n n r2 (by simp only [List.length_cons] at hln; omega) (fun o' ho => h2 o' (by simp [ho])) hS hq)
          exact ⟨hq.1, hq.2.1, ((Off.put (Off.refl W f) h1 _).trans (Off.put (Off.refl W _) h3 _)).trans hq.2.2⟩
      | _ => exact hB.elim
    · refine dops_mono (fun f' S'' hq => ?_) l (dops_more_n n l (by omega) h2 hS hn)
      exact ⟨hq.1, hq.2.1, (Off.put (Off.refl W f) h1 _).trans hq.2.2⟩
theorem dops_more {ops : Array Oper} {Q : Fm → St → Prop} (l : List Oper) (hw : ∀ o ∈ l, dstOk W o.dst = true) {f : Fm} {S : St} (hS : S.WF) (h : dops P ops Q l f S) : dops P ops (fun f' S' => Q f' S' ∧ S'.WF ∧ Off W f f') l f S := dops_more_n l.length l (Nat.le_refl _) hw hS h
theorem dhead_more {ops : Array Oper} {S : St} (hS : S.WF) {Q : Fm → St → Prop} : ∀ (l : List Oper), (∀ o ∈ l, dstOk W o.dst = true) → ∀ {f : Fm} {u : Option Ob}, dhead P ops S Q l f u → dhead P ops S (fun f' S' => Q f' S' ∧ S'.WF ∧ Off W f f') l f u
  | [], _, f, u, h => ⟨h, (by cases u with | none => exact hS | some b => exact hS.add b), Off.refl W f⟩
  | o :: l, hw, f, u, h => by
    unfold dhead at *
    have h1 := hw o (by simp)
    have h2 : ∀ o' ∈ l, dstOk W o'.dst = true := fun o' ho => hw o' (by simp [ho])
    have go : ∀ (d : D) (u' : Option Ob), dhead P ops S Q l (put f o.dst d) u' → dhead P ops S (fun f' S' => Q f' S' ∧ S'.WF ∧ Off W f f') l (put f o.dst d) u' := fun d u' hd =>
      dhead_mono (fun f' S' hq => ⟨hq.1, hq.2.1, (Off.put (Off.refl W f) h1 d).trans hq.2.2⟩) l (dhead_more hS l h2 hd)
    split at h
    · exact hop_mono (fun d u' hd => go d u' hd) h
    · exact dwanted_mono (fun hq => dquiet_mono (fun d hd => go d u hd) hq) (go _ u) h
theorem sAny_more {ops : Array Oper} {md : Region.Mode} {Zs : St → Prop} {Q : Fm → St → Prop} (hw : ∀ (j : Nat) (o : Oper), ops[j]? = some o → dstOk W o.dst = true) : ∀ (fuel : Nat) (L : Array Bool) {f : Fm} {S : St}, S.WF → sAny P md ops Zs Q fuel L f S → sAny P md ops Zs (fun f' S' => Q f' S' ∧ S'.WF ∧ Off W f f') fuel L f S
  | 0, _, f, _, hS, k => ⟨k.1, k.2, hS, Off.refl W f⟩
  | n + 1, L, f, S, hS, k => by
    refine ⟨fun e => ⟨k.1 e, hS, Off.refl W f⟩, fun i hi => ?_⟩
    have h2 := k.2 i hi
    unfold sOp at *
    cases ho : ops[i]? with
    | none => rw [ho] at h2; exact sAny_more hw n _ hS h2
    | some o =>
      rw [ho] at h2
      have h1 := hw i o ho
      have go : ∀ d (S' : St), S'.WF → sAny P md ops Zs Q n (L.setIfInBounds i true) (put f o.dst d) S' → sAny P md ops Zs (fun f' S' => Q f' S' ∧ S'.WF ∧ Off W f f') n (L.setIfInBounds i true) (put f o.dst d) S' := fun d S' hS' hk =>
        sAny_mono (fun f' S' hq => ⟨hq.1, hq.2.1, (Off.put (Off.refl W f) h1 d).trans hq.2.2⟩) _ _ (sAny_more hw n _ hS' hk)
      rcases h2 with ⟨d, e1, e2⟩ | ⟨e1, e2⟩
      · exact .inl ⟨d, e1, go d S hS e2⟩
      · refine .inr ⟨e1, e2.imp (fun e2 => dop_mono (fun d S' hk => ⟨hk.1.1, go d S' hk.2 hk.1.2⟩) (dop_more hS e2)) fun e2 => e2.imp (fun e2 => ?_) fun ⟨d, q1, q2, q3⟩ => ⟨d, q1, q2, go d S hS q3⟩⟩
        unfold dbw at *
        split at e2
        · obtain ⟨e, b1, b2, b3, b4, b5, b6⟩ := e2
          exact ⟨e, b1, b2, b3, b4, b5, b6.1, go _ _ (hS.add _) b6.2⟩
        · exact e2.elim
theorem dwp_more : ∀ (c : Code) {Q : DQ} {f : Fm} {S : St}, wrOk W c = true → S.WF → dwp P c Q f S → dwp P c (fun e f' S' => Q e f' S' ∧ S'.WF ∧ Off W f f') f S := by
  intro c
  induction c with
  | region id ops draw =>
    intro Q f S hw hS h
    have hw' : ∀ o ∈ ops.toList, dstOk W o.dst = true := fun o ho => Array.all_eq_true_iff_forall_mem.1 hw o (by simpa using ho)
    cases draw with
    | false => exact dops_more _ hw' hS h
    | true =>
      rcases h with ⟨n, h1, h2⟩ | ⟨Zs, n, h1, h2, h3⟩
      rotate_left
      · refine .inr ⟨Zs, n, h1, h2, sAny_mono (fun f' S' hq => ?_) _ _ (sAny_more (W := W) (fun j o ho => hw' o (by
          have := List.mem_of_getElem? (show (ops.toList.take n)[j]? = some o by simpa using ho)
          exact List.mem_of_mem_take this)) _ _ hS h3)⟩
        refine dops_mono (fun f'' S'' hk => ?_) _ (dops_more (W := W) _ (fun o ho => hw' o (List.mem_of_mem_drop ho)) hq.2.1 hq.1)
        exact ⟨hk.1, hk.2.1, hq.2.2.trans hk.2.2⟩
      refine .inl ⟨n, h1, dhead_mono (fun f' S' hq => ?_) _ (dhead_more (W := W) hS _ (fun o ho => hw' o (List.mem_of_mem_take ho)) h2)⟩
      refine dops_mono (fun f'' S'' hk => ?_) _ (dops_more (W := W) _ (fun o ho => hw' o (List.mem_of_mem_drop ho)) hq.2.1 hq.1)
      exact ⟨hk.1, hk.2.1, hq.2.2.trans hk.2.2⟩
  | seq x y ihx ihy =>
    intro Q f S hw hS h
    simp only [wrOk, Bool.and_eq_true] at hw
    refine dwp_mono x (fun e f2 S2 hq => ?_) (ihx hw.1 hS h)
    cases e with
    | normal =>
      refine dwp_mono y (fun e3 f3 S3 h3 => ?_) (ihy (Q := Q) hw.2 hq.2.1 hq.1)
      exact ⟨h3.1, h3.2.1, hq.2.2.trans h3.2.2⟩
    | exit i => exact hq
    | ret => exact hq
  | cond g x y ihx ihy =>
    intro Q f S hw hS h
    simp only [wrOk, Bool.and_eq_true] at hw
    unfold dwp at h ⊢
    generalize ev f g = u at h ⊢
    cases u with
    | v u => cases u with
      | bool b => exact ⟨fun e => ihx hw.1 hS (h.1 e), fun e => ihy hw.2 hS (h.2 e)⟩
      | _ => exact h
    | _ => exact h
  | block id c ih =>
    intro Q f S hw hS h
    refine dwp_mono c (fun e f2 S2 hq => ?_) (ih hw hS h)
    cases e with
    | normal => exact hq
    | ret => exact hq
    | exit i =>
      simp only [DQ.block] at *
      cases hb : Nat.beq i id with
      | true => rw [hb] at hq; exact hq
      | false => rw [hb] at hq; exact hq
  | loop c ih =>
    intro Q f S hw hS h
    obtain ⟨I, μ, h0, hr⟩ := h
    refine ⟨fun g T => I g T ∧ T.WF ∧ Off W f g, μ, ⟨h0, hS, Off.refl W f⟩, fun g T ⟨hI, hT, hg⟩ => ?_⟩
    refine dwp_mono c (fun e f2 S2 hq => ?_) (ih hw hT (hr g T hI))
    obtain ⟨hq, hwf, hoff⟩ := hq
    cases e with
    | normal =>
      obtain ⟨S'', ⟨s1, s2⟩, s3, s4⟩ := hq
      refine ⟨S'', ⟨s1, s2⟩, ⟨s3, fun k hk => ?_, hg.trans hoff⟩, s4⟩
      cases ho : S''.ob k with
      | none => rfl
      | some o => have := s2 k o ho; rw [hwf k (by omega)] at this; cases this
    | exit i => exact ⟨hq, hwf, hg.trans hoff⟩
    | ret => exact ⟨hq, hwf, hg.trans hoff⟩
  | skip => intro Q f S _ hS k; exact ⟨k, hS, Off.refl W f⟩
  | label l => intro Q f S _ hS k; exact ⟨k, hS, Off.refl W f⟩
  | exit i => intro Q f S _ hS k; exact ⟨k, hS, Off.refl W f⟩
  | ret => intro Q f S _ hS k; exact ⟨k, hS, Off.refl W f⟩
  | rangeFunc x ps aa b _ _ => intro Q f S _ _ k; exact k.elim
  | scope c _ => intro Q f S _ _ k; exact k.elim
  | goto l => intro Q f S _ _ k; exact k.elim
  | refuse s => intro Q f S _ _ k; exact k.elim
def dnextR (I : Nat → Fm → St → Prop) (m : Nat) (f' : Fm) (S' : St) : Prop := ∃ (m' : Nat) (ob : Nat → Option Ob), m' < m ∧ (∀ k o, ob k = some o → S'.ob k = some o) ∧ I m' f' ⟨S'.next, ob⟩
theorem least_of {p : Nat → Prop} (h : ∃ n, p n) : ∃ n, p n ∧ ∀ m, p m → n ≤ m := by
  obtain ⟨n, hn⟩ := h
  induction n using Nat.strongRecOn with
  | _ n ih =>
    by_cases hx : ∃ m, m < n ∧ p m
    · obtain ⟨m, h1, h2⟩ := hx
      exact ih m h1 h2
    · refine ⟨n, hn, fun m hm => ?_⟩
      rcases Nat.lt_or_ge m n with h1 | h1
      · exact absurd ⟨m, h1, hm⟩ hx
      · exact h1
theorem dloop_down {c : Code} {Q : DQ} {f : Fm} {S : St} (W : Nat → Bool) (hW : wrOk W c = true) (hS : S.WF) (I : Nat → Fm → St → Prop) (m : Nat) (h0 : I m f S)
    (hr : ∀ m g T, T.WF → Off W f g → I m g T → dwp P c (DQ.then (dnextR I m) Q) g T) : DLoop (dwp P c) Q f S := by
  classical
  let J : Fm → St → Nat → Prop := fun g T m => I m g T ∧ T.WF ∧ Off W f g
  refine ⟨fun g T => ∃ m, J g T m, fun g T => if h : ∃ m, J g T m then Classical.choose (least_of h) else 0, ⟨m, h0, hS, Off.refl W f⟩, fun g T hI => ?_⟩
  have hf := (Classical.choose_spec (least_of hI)).1
  obtain ⟨h1, h2, h3⟩ := hf
  refine dwp_mono c (fun e f2 S2 hq => ?_) (dwp_more (W := W) c hW h2 (hr _ g T h2 h3 h1))
  obtain ⟨hq, hwf, hoff⟩ := hq
  cases e with
  | normal =>
    obtain ⟨m', ob, k1, k2, k3⟩ := hq
    have hw2 : (St.mk S2.next ob).WF := fun k hk => by
      cases ho : ob k with
      | none => exact ho
      | some o => have := k2 k o ho; rw [hwf k hk] at this; cases this
    have hj : J f2 ⟨S2.next, ob⟩ m' := ⟨k3, hw2, h3.trans hoff⟩
    refine ⟨⟨S2.next, ob⟩, ⟨rfl, k2⟩, ⟨m', hj⟩, ?_⟩
    show (if h : ∃ m, J f2 ⟨S2.next, ob⟩ m then Classical.choose (least_of h) else 0) < (if h : ∃ m, J g T m then Classical.choose (least_of h) else 0)
    rw [dif_pos ⟨m', hj⟩, dif_pos hI]
    exact Nat.lt_of_le_of_lt ((Classical.choose_spec (least_of ⟨m', hj⟩)).2 m' hj) k1
  | exit i => exact hq
  | ret => exact hq
def dnextU (I : Nat → Fm → St → Prop) (n i : Nat) (f' : Fm) (S' : St) : Prop := i < n ∧ ∃ ob : Nat → Option Ob, (∀ k o, ob k = some o → S'.ob k = some o) ∧ I (i + 1) f' ⟨S'.next, ob⟩
theorem dloop_up {c : Code} {Q : DQ} {f : Fm} {S : St} (W : Nat → Bool) (hW : wrOk W c = true) (hS : S.WF) (n : Nat) (I : Nat → Fm → St → Prop) (h0 : I 0 f S)
    (hr : ∀ i g T, T.WF → Off W f g → I i g T → dwp P c (DQ.then (dnextU I n i) Q) g T) : DLoop (dwp P c) Q f S := by
  refine dloop_down W hW hS (fun m g T => ∃ i, m = n - i ∧ I i g T) (n - 0) ⟨0, rfl, h0⟩ fun m g T hT hg ⟨i, hm, hI⟩ => ?_
  subst hm
  refine dwp_mono c (fun e f2 S2 hq => ?_) (hr i g T hT hg hI)
  cases e with
  | normal =>
    obtain ⟨k1, ob, k2, k3⟩ := hq
    exact ⟨n - (i + 1), ob, by omega, k2, i + 1, rfl, k3⟩
  | exit i => exact hq
  | ret => exact hq
def dnextS (S : St) (I : Nat → Fm → Prop) (n i : Nat) (f' : Fm) (S' : St) : Prop := i < n ∧ S.Sub S' ∧ I (i + 1) f'
theorem dloop_st {c : Code} {Q : DQ} {f : Fm} {S : St} (W : Nat → Bool) (hW : wrOk W c = true) (hS : S.WF) (n : Nat) (I : Nat → Fm → Prop) (h0 : I 0 f)
    (hr : ∀ i g tn, S.next ≤ tn → (St.mk tn S.ob).WF → Off W f g → I i g → dwp P c (DQ.then (dnextS S I n i) Q) g ⟨tn, S.ob⟩) : DLoop (dwp P c) Q f S := by
  refine dloop_up W hW hS n (fun i g T => S.next ≤ T.next ∧ T.ob = S.ob ∧ I i g) ⟨Nat.le_refl _, rfl, h0⟩ fun i g T hT hg ⟨h1, h2, h3⟩ => ?_
  obtain ⟨tn, tob⟩ := T
  have h2' : tob = S.ob := h2
  subst h2'
  refine dwp_mono c (fun e f2 S2 hq => ?_) (hr i g tn h1 hT hg h3)
  cases e with
  | normal => exact ⟨hq.1, S.ob, hq.2.1.ob, hq.2.1.next, rfl, hq.2.2⟩
  | exit i => exact hq
  | ret => exact hq
def dnextV (S : St) (v : Nat) (b : Nat → Ob) (I : Nat → Fm → Prop) (n i : Nat) (f' : Fm) (S' : St) : Prop := i < n ∧ (S.set v (b (i + 1))).Sub S' ∧ I (i + 1) f'
theorem dloop_var {c : Code} {Q : DQ} {f : Fm} {S : St} (W : Nat → Bool) (hW : wrOk W c = true) (hS : S.WF) (n : Nat) (v : Nat) (b : Nat → Ob) (hv : S.ob v = some (b 0)) (I : Nat → Fm → Prop) (h0 : I 0 f)
    (hr : ∀ i g tn, S.next ≤ tn → (St.mk tn (S.set v (b i)).ob).WF → Off W f g → I i g → dwp P c (DQ.then (dnextV S v b I n i) Q) g ⟨tn, (S.set v (b i)).ob⟩) : DLoop (dwp P c) Q f S := by
  have hb : (S.set v (b 0)).ob = S.ob := by
    funext k
    simp only [St.set]
    split
    · rename_i h; rw [h, hv]
    · rfl
  refine dloop_up W hW hS n (fun i g T => S.next ≤ T.next ∧ T.ob = (S.set v (b i)).ob ∧ I i g) ⟨Nat.le_refl _, hb.symm, h0⟩ fun i g T hT hg ⟨h1, h2, h3⟩ => ?_
  obtain ⟨tn, tob⟩ := T
  have h2' : tob = (S.set v (b i)).ob := h2
  subst h2'
  refine dwp_mono c (fun e f2 S2 hq => ?_) (hr i g tn h1 hT hg h3)
  cases e with
  | normal => exact ⟨hq.1, (S.set v (b (i + 1))).ob, hq.2.1.ob, hq.2.1.next, rfl, hq.2.2⟩
  | exit i => exact hq
  | ret => exact hq
theorem St.Sub.upd {S X : St} {v tn : Nat} {b B B' : Ob} (hn : S.next ≤ tn) (hB : B' = B) (h : St.Sub ⟨tn, (S.set v b).ob⟩ X) : (S.set v B').Sub (X.set v B) := ⟨Nat.le_trans hn h.next, fun k o hk => by
  subst hB
  simp only [set_ob] at *
  split
  · rename_i e; rw [if_pos e] at hk; exact hk
  · rename_i e
    rw [if_neg e] at hk
    refine h.ob k o ?_
    show (S.set v b).ob k = _
    rw [set_ob, if_neg e]
    exact hk⟩
/-! A row that grows. -/
def rowOf (S : St) (own : Own) (e : TypeId) (n : Nat) : Nat → Option Ob := fun k => match own with
  | .row g => if k = g then some (.row e n) else S.ob k
  | _ => S.ob k
def RowOk (lo : Nat) (S : St) (own : Own) (n : Nat) : Prop := own = .full ∨ ∃ g, own = .row g ∧ lo ≤ g ∧ S.ob g = none ∧ g < n
theorem rowOf_lt {lo : Nat} {S : St} {own : Own} {n : Nat} (h : RowOk lo S own n) {e : TypeId} {m k : Nat} (hk : k < lo) : rowOf S own e m k = S.ob k := by
  rcases h with rfl | ⟨g, rfl, h1, _⟩
  · rfl
  · show (if k = g then _ else _) = _
    rw [if_neg (by omega)]
theorem rowOf_some {lo : Nat} {S : St} {own : Own} {n : Nat} (h : RowOk lo S own n) {e : TypeId} {m k : Nat} {o : Ob} (hk : S.ob k = some o) : rowOf S own e m k = some o := by
  rcases h with rfl | ⟨g, rfl, _, h1, _⟩
  · exact hk
  · have : k ≠ g := fun e => by subst e; rw [h1] at hk; cases hk
    show (if k = g then _ else _) = _
    rw [if_neg this]
    exact hk
theorem RowOk.sub {lo : Nat} {S : St} {own : Own} {e : TypeId} {m n : Nat} (h : RowOk lo S own n) (hn : S.next ≤ n) : S.Sub ⟨n, rowOf S own e m⟩ := ⟨hn, fun k o hk => rowOf_some h hk⟩
theorem RowOk.own {lo : Nat} {S : St} {own : Own} {e : TypeId} {m n : Nat} (h : RowOk lo S own n) : (match own with | .full => True | .row g => rowOf S own e m g = some (.row e m) | .no => False) := by
  rcases h with rfl | ⟨g, rfl, h1, _⟩
  · trivial
  · show (if g = g then _ else _) = _
    rw [if_pos rfl]
theorem RowOk.own_of {lo : Nat} {S X : St} {own : Own} {e : TypeId} {m n : Nat} (h : RowOk lo S own n) (hs : St.Sub ⟨n, rowOf S own e m⟩ X) : (match own with | .full => True | .row g => X.ob g = some (.row e m) | .no => False) := by
  have := h.own (e := e) (m := m)
  revert this
  cases own with
  | full => exact fun _ => trivial
  | no => exact fun h => h
  | row g => exact fun h => hs.ob _ _ h
theorem leave_next (S : St) (own : Own) : (S.leave own).next = S.next := by cases own <;> rfl
theorem aI {a b : Prop} (h : b) (ha : a := by with_reducible first | omega | assumption | rfl) : a ∧ b := ⟨ha, h⟩
theorem nx : (∀ (S : St) (o : Ob), (S.add o).next = S.next + 1) ∧ (∀ (S : St) (k : Nat) (o : Ob), (S.set k o).next = S.next) ∧ (∀ (S : St) (own : Own) (e : TypeId) (n : Nat), (S.grow own e n).next = S.next + 1) ∧ (∀ (S : St) (own : Own), (S.leave own).next = S.next) ∧ (∀ (S : St) (g : Nat), (S.drop g).next = S.next) ∧ (∀ (α β : Type) (f : α → β) (l : List α), (l.map f).length = l.length) :=
  ⟨add_next, set_next, grow_next, leave_next, drop_next, fun _ _ f l => List.length_map ..⟩
abbrev RowOk.lo {lo : Nat} {S : St} {own : Own} {n : Nat} (_ : RowOk lo S own n) : Nat := lo
structure RowNext (lo : Nat) (S : St) (own : Own) (e : TypeId) (m : Nat) (S' : St) : Prop where
  ok : RowOk lo S own S'.next
  next : S.next ≤ S'.next
  ob : ∀ k o, rowOf S own e m k = some o → S'.ob k = some o
theorem RowNext.same {lo : Nat} {S T : St} {own : Own} {e : TypeId} {m n : Nat} (h : RowOk lo S own n) (hn : S.next ≤ n) (hs : St.Sub ⟨n, rowOf S own e m⟩ T) : RowNext lo S own e m T :=
  ⟨by
    have := hs.next
    rcases h with rfl | ⟨g, rfl, h0, h1, h2⟩
    · exact .inl rfl
    · exact .inr ⟨g, rfl, h0, h1, Nat.lt_of_lt_of_le h2 this⟩, Nat.le_trans hn hs.next, hs.ob⟩
theorem RowNext.grow {lo : Nat} {S X T : St} (hS : S.WF) (hlo : lo ≤ S.next) {own : Own} {e : TypeId} {m m' n : Nat} (h : RowOk lo S own n) (hn : S.next ≤ n) (hs : St.Sub ⟨n, rowOf S own e m⟩ X) (hT : (X.grow own e m').Sub T) : RowNext lo S (.row X.next) e m' T := by
  have hXn : n ≤ X.next := hs.next
  have hg : (X.grow own e m').next = X.next + 1 := grow_next _ _ _ _
  have hTn := hT.next
  rw [hg] at hTn
  refine ⟨.inr ⟨X.next, rfl, by omega, hS _ (by omega), by omega⟩, by omega, fun k o hk => hT.ob k o ?_⟩
  simp only [rowOf] at hk
  by_cases h1 : k = X.next
  · rw [if_pos h1] at hk
    rcases h with rfl | ⟨g, rfl, _, _⟩
    · rw [grow_full_ob, if_pos h1, hk]
    · rw [grow_row_ob, if_pos h1, hk]
  · rw [if_neg h1] at hk
    have h2 := hs.ob k o (rowOf_some h hk)
    rcases h with rfl | ⟨g, rfl, h3, h4, h5⟩
    · rw [grow_full_ob, if_neg h1]
      exact h2
    · have hkg : k ≠ g := fun e => by subst e; rw [h4] at hk; cases hk
      rw [grow_row_ob, if_neg h1, if_neg hkg]
      exact h2
def dnextG (lo : Nat) (S : St) (e : TypeId) (I : Nat → Own → Nat → Fm → Prop) (n i : Nat) (f' : Fm) (S' : St) : Prop := i < n ∧ ∃ own m, RowNext lo S own e m S' ∧ I (i + 1) own m f'
theorem dloop_rowI {c : Code} {Q : DQ} {f : Fm} {S : St} (W : Nat → Bool) (hW : wrOk W c = true) (hS : S.WF) (n : Nat) (e : TypeId) (lo : Nat) (own0 : Own) (m0 : Nat) (h1 : own0 = .full ∨ ∃ g, own0 = .row g ∧ lo ≤ g ∧ S.ob g = some (.row e m0)) (I : Nat → Own → Nat → Fm → Prop) (h0 : I 0 own0 m0 f)
    (hr : ∀ i g tn own m, (S.leave own0).next ≤ tn → RowOk lo (S.leave own0) own tn → (St.mk tn (rowOf (S.leave own0) own e m)).WF → Off W f g → I i own m g → dwp P c (DQ.then (dnextG lo (S.leave own0) e I n i) Q) g ⟨tn, rowOf (S.leave own0) own e m⟩) : DLoop (dwp P c) Q f S := by
  have hob : S.ob = rowOf (S.leave own0) own0 e m0 := by
    rcases h1 with rfl | ⟨g, rfl, _, h2⟩
    · rfl
    · funext k
      show S.ob k = if k = g then _ else (if k = g then none else S.ob k)
      split
      · rename_i e1; rw [e1, h2]
      · rfl
  have hok : RowOk lo (S.leave own0) own0 S.next := by
    rcases h1 with rfl | ⟨g, rfl, h3, h2⟩
    · exact .inl rfl
    · refine .inr ⟨g, rfl, h3, ?_, hS.lt h2⟩
      show (if g = g then none else S.ob g) = none
      rw [if_pos rfl]
  have hnx : (S.leave own0).next = S.next := by cases own0 <;> rfl
  refine dloop_up W hW hS n (fun i g T => S.next ≤ T.next ∧ ∃ own m, RowOk lo (S.leave own0) own T.next ∧ T.ob = rowOf (S.leave own0) own e m ∧ I i own m g) ⟨Nat.le_refl _, own0, m0, hok, hob, h0⟩ fun i g T hT hg ⟨h1, own, m, h4, h2, h3⟩ => ?_
  obtain ⟨tn, tob⟩ := T
  have h2' : tob = rowOf (S.leave own0) own e m := h2
  subst h2'
  refine dwp_mono c (fun e f2 S2 hq => ?_) (hr i g tn own m (by rw [hnx]; exact h1) h4 hT hg h3)
  cases e with
  | normal =>
    obtain ⟨k1, own', m', k2, k3⟩ := hq
    exact ⟨k1, rowOf (S.leave own0) own' _ m', k2.ob, hnx ▸ k2.next, own', m', k2.ok, rfl, k3⟩
  | exit i => exact hq
  | ret => exact hq
theorem dloop_row {c : Code} {Q : DQ} {f : Fm} {S : St} (W : Nat → Bool) (hW : wrOk W c = true) (hS : S.WF) (n : Nat) (e : TypeId) (I : Nat → Own → Nat → Fm → Prop) (h0 : I 0 .full 0 f)
    (hr : ∀ i g tn own m, S.next ≤ tn → RowOk S.next S own tn → (St.mk tn (rowOf S own e m)).WF → Off W f g → I i own m g → dwp P c (DQ.then (dnextG S.next S e I n i) Q) g ⟨tn, rowOf S own e m⟩) : DLoop (dwp P c) Q f S :=
  dloop_rowI W hW hS n e S.next .full 0 (.inl rfl) I h0 hr
theorem dapp_grow {P : Program} {S1 S : St} {t tx ty e : TypeId} {own o2 : Own} {es es2 : List D} {K : D → St → Prop} {lo n m : Nat} (he : elT P t = some e) (hx : (elT P tx).isSome = true) (hz : zeroT P e = true) (h1 : ∀ d ∈ es, d.width = szOf P e) (h2 : ∀ d ∈ es2, d.width = szOf P e) (hr : RowOk lo S own n) (hs : St.Sub ⟨n, rowOf S own e m⟩ S1) (hm : own = .full ∨ m = es.length)
    (hb : es.length + es2.length ≤ 140737488355328) (hb2 : (es.length + es2.length) * bytesOf P e ≤ 140737488355328) (k : K (.sl (.row S1.next) (es ++ es2)) (S1.grow own e (es.length + es2.length))) : dapp P S1 t tx ty (.sl own es) (.sl o2 es2) K := by
  refine dapp_row ?_
  simp only [dappend, he]
  refine ⟨hx, hz, h1, h2, ?_, hb, hb2, k⟩
  rcases hm with rfl | hm
  · trivial
  · rw [← hm]
    have key := hr.own_of hs
    cases own <;> exact key
end
end Go.Proofs.Ytonncfminojejaa

namespace Go.Proofs.Ytonncfminojejaa
open Go.RowKit

mutual
def D.thaw (k : Nat) (es : List D) : D → D
  | .agg cs => .agg (thawL k es cs)
  | .tup cs => .tup (thawL k es cs)
  | .win j off n c => bif Nat.beq j k && (Nat.beq off 0 && Nat.beq n es.length) then .sl .no es else .win j off n c
  | .v x => .v x
  | .fn f fs cs => .fn f fs cs
  | .ifc t d => .ifc t d
  | .loc j o => .loc j o
  | .rd cs o => .rd cs o
  | .sl o l => .sl o l
def thawL (k : Nat) (es : List D) : List D → List D
  | [] => []
  | d :: l => d.thaw k es :: thawL k es l
end
section
variable {P : Program} {base : Nat} {S : St} {η : Names} {w : World}
theorem win_cells (hM : Mem P base S η w) {k b : Nat} {e : TypeId} {es zs : List D} (hk : S.ob k = some (.box e (flat es ++ zs))) (hb : η k = some (some b)) (hw : ∀ d ∈ es, d.width = szOf P e) {X : Nat → Nat → Prop} (hX : ∀ i, X b i) {w' : World} {η' : Names} (hE : w' = w) (hK : ∀ {l : List D} {vs : List Value}, RepL P w η (Fix P S η) l vs → RepL P w' η' X l vs) : RepE P w' η' X (szOf P e) es b 0 := by
  subst hE
  obtain ⟨vs, h1, h2, h3⟩ := hM.box k e _ b hk hb
  refine RepE.of_flat hw ?_
  have h4 := RepC.mk (b := b) (o := 0) (hK h2) (fun j v hj => by
    rw [Nat.zero_add]
    have : w'.cell? ⟨b, j, none⟩ = vs.toArray[j]? := by simp [World.cell?, h1]
    rw [this]; simpa using hj) (fun j _ => hX _) h3
  exact h4.left.1
mutual
theorem Rep.thaw (hM : Mem P base S η w) {k : Nat} {e : TypeId} {es zs : List D} (hk : es = [] ∨ S.ob k = some (.box e (flat es ++ zs))) (hz : 0 < szOf P e) (hw : ∀ d ∈ es, d.width = szOf P e) : ∀ {d : D} {v : Value}, Rep P w η (Fix P S η) d v → Rep P w η (Fix P (S.drop k) η) (d.thaw k es) v
  | .v x, v, h => by simp only [D.thaw]; exact (goes_drop hM k).rep h
  | .fn f fs cs, v, h => by simp only [D.thaw]; exact (goes_drop hM k).rep h
  | .ifc t d, v, h => by simp only [D.thaw]; exact (goes_drop hM k).rep h
  | .loc j o, v, h => by simp only [D.thaw]; exact (goes_drop hM k).rep h
  | .rd cs o, v, h => by simp only [D.thaw]; exact (goes_drop hM k).rep h
  | .sl o l, v, h => by simp only [D.thaw]; exact (goes_drop hM k).rep h
  | .agg cs, v, h => by
    simp only [D.thaw, Rep] at *
    obtain ⟨vs, h1, h2, h3⟩ := h
    exact ⟨vs, h1, RepL.thaw hM hk hz hw h2, h3⟩
  | .tup cs, v, h => by
    simp only [D.thaw, Rep] at *
    obtain ⟨vs, h1, h2⟩ := h
    exact ⟨vs, h1, RepL.thaw hM hk hz hw h2⟩
  | .win j off n c, v, h => by
    cases hb : (Nat.beq j k && (Nat.beq off 0 && Nat.beq n es.length)) with
    | false =>
      have e1 : (D.win j off n c).thaw k es = .win j off n c := by simp only [D.thaw, hb, cond_false]
      rw [e1]
      exact (goes_drop hM k).rep h
    | true =>
      rw [Bool.and_eq_true, Bool.and_eq_true] at hb
      have e1 : j = k := Nat.eq_of_beq_eq_true hb.1
      have e4 : off = 0 := Nat.eq_of_beq_eq_true hb.2.1
      have e2 : n = es.length := Nat.eq_of_beq_eq_true hb.2.2
      subst e1 e2 e4
      have e3 : (D.win j 0 es.length c).thaw j es = .sl .no es := by simp [D.thaw]
      rw [e3]
      obtain ⟨A, h2, h3, h4, h1⟩ := h.win_slice
      simp only [Rep]
      refine ⟨A, c, h2, h3, h4, trivial, fun hpos => ?_⟩
      rcases hk with hk | hk
      · rw [hk] at hpos; exact absurd hpos (by simp)
      rcases h1 with ⟨b, h1, rfl⟩ | ⟨_, h1, _⟩
      rotate_left
      · omega
      refine ⟨b, 0, szOf P e, rfl, hz, ?_⟩
      refine win_cells hM hk h1 hw (fun i k' o hk' ho => ?_) rfl (fun hr => (goes_drop hM j).repL hr)
      by_cases hkj : k' = j
      · subst hkj
        simp [St.drop] at ho
      · simp only [St.drop, if_neg hkj] at ho
        exact absurd (hM.inj k' j b hk' h1 (by rw [ho]; rfl) (by rw [hk]; rfl)) hkj
theorem RepL.thaw (hM : Mem P base S η w) {k : Nat} {e : TypeId} {es zs : List D} (hk : es = [] ∨ S.ob k = some (.box e (flat es ++ zs))) (hz : 0 < szOf P e) (hw : ∀ d ∈ es, d.width = szOf P e) : ∀ {l : List D} {vs : List Value}, RepL P w η (Fix P S η) l vs → RepL P w η (Fix P (S.drop k) η) (thawL k es l) vs
  | [], vs, h => by simp only [thawL, RepL] at *; exact h
  | d :: l, vs, h => by
    simp only [thawL, RepL] at *
    obtain ⟨x, xs, h1, h2, h3⟩ := h
    exact ⟨x, xs, h1, Rep.thaw hM hk hz hw h2, RepL.thaw hM hk hz hw h3⟩
end
end
def ownOb (e : TypeId) (es zs : List D) (c : Nat) : Ob := bif Nat.beq c 0 then .row e 0 else .box e (flat es ++ zs)
theorem ownOb_box {e : TypeId} {es zs : List D} {c : Nat} (h : 0 < c) : ownOb e es zs c = .box e (flat es ++ zs) := by
  cases c with
  | zero => omega
  | succ c => rfl
theorem ownOb_nil (e : TypeId) (es zs : List D) : ownOb e es zs 0 = .row e 0 := rfl
theorem thaw_own {P : Program} {S : St} {k c : Nat} {e : TypeId} {es zs : List D} (hk : S.ob k = some (ownOb e es zs c)) (hc : es.length ≤ c) (hz : 0 < szOf P e) (hw : ∀ d ∈ es, d.width = szOf P e) {d d1 : D} (hd : d.thaw k es = d1) : Thaw P S d (S.drop k) d1 := fun base η w v hM hr => by
  refine ⟨η, goes_drop hM k, hd ▸ Rep.thaw (zs := zs) hM ?_ hz hw hr⟩
  rcases Nat.eq_zero_or_pos c with rfl | h
  · exact .inl (List.eq_nil_of_length_eq_zero (by omega))
  · rw [ownOb_box h] at hk
    exact .inr hk
theorem flat_cons (d : D) (l : List D) : flat (d :: l) = d.cells ++ flat l := by simp [flat]
theorem splice_flat : ∀ {es : List D} {zs : List D} {z : Nat} (i : Nat) {y : D}, i < es.length → (∀ d ∈ es, d.width = z) → y.width = z → splice (flat es ++ zs) (0 + i * z) y.cells = flat (es.set i y) ++ zs
  | [], _, _, i, _, h, _, _ => by simp at h
  | d :: es, zs, z, 0, y, _, hw, hy => by
    have h1 : d.cells.length = z := hw d (by simp)
    have h2 : y.cells.length = z := hy
    simp only [List.set_cons_zero, flat_cons, splice, Nat.zero_mul, Nat.add_zero, List.take_zero, List.nil_append, Nat.zero_add, h2, List.append_assoc]
    rw [List.drop_append, List.drop_of_length_le (by omega), h1, Nat.sub_self, List.drop_zero, List.nil_append]
  | d :: es, zs, z, i + 1, y, hi, hw, hy => by
    have h1 : d.cells.length = z := hw d (by simp)
    have ih := splice_flat (es := es) (zs := zs) (z := z) i (y := y) (by simpa using hi) (fun d' hd' => hw d' (by simp [hd'])) hy
    simp only [List.set_cons_succ, flat_cons, List.append_assoc]
    rw [← ih]
    simp only [splice, Nat.zero_add]
    have e1 : (i + 1) * z = z + i * z := by rw [Nat.add_mul]; omega
    rw [e1, List.take_append, List.drop_append, h1]
    rw [List.take_of_length_le (l := d.cells) (by omega), List.drop_of_length_le (l := d.cells) (by omega)]
    rw [show z + i * z - z = i * z by omega, show z + i * z + y.cells.length - z = i * z + y.cells.length by omega]
    simp [List.append_assoc]
theorem splice_flat' {es zs : List D} {z i : Nat} {y : D} (hi : i < es.length) (hw : ∀ d ∈ es, d.width = z) (hy : y.width = z) : List.take (i * z) (flat es ++ zs) ++ y.cells ++ List.drop (i * z + z) (flat es ++ zs) = flat (es.set i y) ++ zs := by
  have := splice_flat (zs := zs) i hi hw hy
  rw [← this]
  simp only [splice, Nat.zero_add]
  rw [show y.cells.length = z from hy]
theorem dquietR_of {P : Program} {f : Fm} {S : St} {ty : TypeId} {op : Op} {d : D} (h : dquiet P f S ty op fun d' => d' = d) : dquietR P f S ty op d := by
  obtain ⟨d', h1, rfl⟩ := dquiet_iff.1 h
  exact h1
end Go.Proofs.Ytonncfminojejaa

namespace Go.Proofs.Ytonncfminojejaa
open Go.RowKit

def SrcOk (S : St) (z : Nat) (d : D) (m : Nat) (news : List D) : Prop := match d with
  | .sl _ es => (∀ x ∈ es, x.width = z) ∧ m = es.length ∧ news = flat es
  | .win k off n _ => m = n ∧ (n = 0 ∧ news = [] ∨ ∃ t cs, S.ob k = some (.box t cs) ∧ off + n * z ≤ cs.length ∧ news = (cs.drop off).take (n * z))
  | _ => False
theorem srcOk_sl {S : St} {z : Nat} {o : Own} {es : List D} (h : ∀ x ∈ es, x.width = z) : SrcOk S z (.sl o es) es.length (flat es) := ⟨h, rfl, rfl⟩
theorem srcOk_win {S : St} {z k off n c : Nat} {t : TypeId} {cs : List D} (hk : S.ob k = some (.box t cs)) (h : off + n * z ≤ cs.length) : SrcOk S z (.win k off n c) n ((cs.drop off).take (n * z)) := ⟨rfl, .inr ⟨t, cs, hk, h, rfl⟩⟩
structure SrcAt (w : World) (z : Nat) (v : Value) (m : Nat) (us : List Value) : Prop where
  sl : ∃ A c, v = .slice A m c ∧ m ≤ 140737488355328 ∧ ((A = none ∧ m = 0) ∨ ∃ a, A = some a ∧ ∀ (j : Nat) u, us[j]? = some u → w.cell? (a.add j) = some u)
  len : us.length = m * z
  one : ∀ u ∈ us, u.oneCell' = true
section
variable {P : Program} {base : Nat} {S : St} {η : Names} {w : World}
theorem SrcOk.length {z : Nat} {d : D} {m : Nat} {news : List D} (h : SrcOk S z d m news) : news.length = m * z := by
  cases d with
  | sl o es => obtain ⟨h1, rfl, rfl⟩ := h; exact dflat_length h1
  | win k off n c =>
    obtain ⟨rfl, ⟨h1, rfl⟩ | ⟨t, cs, _, h2, rfl⟩⟩ := h
    · rw [h1]; simp
    · rw [List.length_take, List.length_drop]; omega
  | _ => exact h.elim
theorem srcOk_at (hM : Mem P base S η w) {z : Nat} {d : D} {m : Nat} {news : List D} {v : Value} (hs : SrcOk S z d m news) (hr : Rep P w η (Fix P S η) d v) :
    ∃ us, SrcAt w z v m us ∧ RepL P w η (Fix P S η) news us := by
  cases d with
  | sl o es =>
    obtain ⟨h1, rfl, rfl⟩ := hs
    simp only [Rep] at hr
    obtain ⟨A, c, rfl, h2, h3, h4, h5⟩ := hr
    rcases Nat.eq_zero_or_pos es.length with h0 | h0
    · have : es = [] := List.eq_nil_of_length_eq_zero h0
      subst this
      refine ⟨[], ⟨⟨A, c, rfl, by simp, ?_⟩, by simp, fun u hu => by cases hu⟩, by simp [flat, RepL]⟩
      cases A with
      | none => exact .inl ⟨rfl, rfl⟩
      | some a => exact .inr ⟨a, rfl, fun j u hu => by simp at hu⟩
    · obtain ⟨b, o, z', rfl, hz', hr⟩ := h5 h0
      obtain ⟨k1, k2⟩ := RepE.flat hr
      obtain ⟨vs, g1, g2, g3, g4⟩ := k2.range
      exact ⟨vs, ⟨⟨_, c, rfl, h3, .inr ⟨_, rfl, fun j u hu => by rw [Addr.add_mid]; exact g2 j u hu⟩⟩, by rw [g1, dflat_length h1], g4⟩, g3⟩
  | win k off n c =>
    obtain ⟨rfl, h⟩ := hs
    obtain ⟨A, rfl, h2, h3, h4⟩ := hr.win_slice
    rcases h with ⟨rfl, rfl⟩ | ⟨t, cs, h5, h6, rfl⟩
    · refine ⟨[], ⟨⟨A, c, rfl, by simp, ?_⟩, by simp, fun u hu => by cases hu⟩, by simp [RepL]⟩
      cases A with
      | none => exact .inl ⟨rfl, rfl⟩
      | some a => exact .inr ⟨a, rfl, fun j u hu => by simp at hu⟩
    · obtain ⟨b, hb⟩ := hM.live k t cs h5
      rcases h4 with ⟨b', h4, rfl⟩ | ⟨h4, _⟩
      rotate_left
      · rw [hb] at h4; cases h4
      have : b' = b := by rw [hb] at h4; injection h4 with h4; injection h4 with h4; exact h4.symm
      subst this
      obtain ⟨vs, g1, g2, g3⟩ := hM.box k t cs b' h5 hb
      have hl := g2.length
      refine ⟨(vs.drop off).take (m * z), ⟨⟨_, c, rfl, h3, .inr ⟨_, rfl, fun j u hu => ?_⟩⟩, by rw [List.length_take, List.length_drop]; omega, fun u hu => g3 u (List.mem_of_mem_drop (List.mem_of_mem_take hu))⟩, (g2.drop off).take _⟩
      rw [Addr.add_mid]
      have : w.cell? ⟨b', off + j, none⟩ = vs.toArray[off + j]? := by simp [World.cell?, g1]
      rw [this]
      rw [List.getElem?_take] at hu
      split at hu
      · rw [List.getElem?_drop] at hu
        simpa using hu
      · cases hu
  | _ => exact hs.elim
theorem SrcAt.src {z : Nat} {v : Value} {m : Nat} {us : List Value} {tx : TypeId} (h : SrcAt w z v m us) (ht : (elT P tx).isSome = true) : Src P z tx v m us w := by
  obtain ⟨e', he'⟩ := Option.isSome_iff_exists.1 ht
  have hk := elT_spec he'
  obtain ⟨⟨A, c, rfl, _, ⟨rfl, rfl⟩ | ⟨a, rfl, ha⟩⟩, h2, h3⟩ := h
  · have : us = [] := List.eq_nil_of_length_eq_zero (by rw [h2]; simp)
    subst this
    exact Src.ofNil w hk c
  · exact Src.ofSlice w hk a m c us h2 ha h3
theorem win_live (hM : Mem P base S η w) {k off n c : Nat} {t : TypeId} {cs : List D} {v : Value} (hk : S.ob k = some (.box t cs)) (hr : Rep P w η (Fix P S η) (.win k off n c) v) :
    ∃ b vs, v = .slice (some ⟨b, off, none⟩) n c ∧ η k = some (some b) ∧ w.heap[b]? = some (.cells vs.toArray t (0, 0)) ∧ RepL P w η (Fix P S η) cs vs ∧ (∀ x ∈ vs, x.oneCell' = true) ∧ n ≤ c ∧ n ≤ 140737488355328 := by
  obtain ⟨A, rfl, h2, h3, h4⟩ := hr.win_slice
  obtain ⟨b, hb⟩ := hM.live k t cs hk
  rcases h4 with ⟨b', h4, rfl⟩ | ⟨h4, _⟩
  · have : b' = b := by rw [hb] at h4; injection h4 with h4; injection h4 with h4; exact h4.symm
    subst this
    obtain ⟨vs, g1, g2, g3⟩ := hM.box k t cs b' hk hb
    exact ⟨b', vs, rfl, h4, g1, g2, g3, h2, h3⟩
  · rw [hb] at h4; cases h4
theorem splice_len {cs ds : List D} {off : Nat} (h : off + ds.length ≤ cs.length) : (splice cs off ds).length = cs.length := by
  simp only [splice, List.length_append, List.length_take, List.length_drop]
  omega
theorem one_splice {vs us : List Value} {off : Nat} (h : ∀ x ∈ vs, x.oneCell' = true) (k : ∀ x ∈ us, x.oneCell' = true) : ∀ x ∈ vs.take off ++ us ++ vs.drop (off + us.length), x.oneCell' = true := fun u hu => by
  rcases List.mem_append.1 hu with hu | hu
  · rcases List.mem_append.1 hu with hu | hu
    · exact h u (List.mem_of_mem_take hu)
    · exact k u hu
  · exact h u (List.mem_of_mem_drop hu)
theorem run_append_room_at (w : World) (t tx ty e : TypeId) (i : TypeInfo) (ht : P.underlying t = some (.slice e)) (hi : P.info? e = some i) (b off sLen sCap : Nat) (bt : TypeId) (x : Value) (n : Nat) (news : List Value) (hs : Src P i.size tx x n news w)
    (cur : Array Value) (hg : w.heap[b]? = some (.cells cur bt (0, 0))) (hroom : sLen + n ≤ sCap) (hfit : off + sLen * i.size + news.length ≤ cur.size) :
    (Builtin.append_ #[t, tx] ty #[.slice (some ⟨b, off, none⟩) sLen sCap, x]).run P w = .ok (.slice (some ⟨b, off, none⟩) (sLen + n) sCap) (w.setRow b (cur.toList.take (off + sLen * i.size) ++ news ++ cur.toList.drop (off + sLen * i.size + news.length)).toArray) := by
  have hst := run_storeCells_at P b (off + sLen * i.size) bt news 0 cur w hg (by simpa using hfit) hs.one
  simp only [Nat.add_zero] at hst
  rcases hs.kind with ⟨e', hk⟩ | hk <;> simp [Builtin.append_, run_underlying ht, run_underlying hk, sizeOf, typeInfo, hi, hs.len, hroom, hs.cells, Addr.add_lit, hst]
def dappW (P : Program) (t tx ty : TypeId) (x y : D) (S : St) (K : D → St → Prop) : Prop := DRun P (fun vs => Builtin.append_ #[t, tx] ty vs.toArray) [x, y] S K
theorem dapp_atw {t tx ty : TypeId} {k off n c : Nat} {y : D} {K : D → St → Prop} : dapp P S t tx ty (.win k off n c) y K = dappW P t tx ty (.win k off n c) y S K := rfl
attribute [go_sem] dapp_atw
theorem dapp_nil {t tx ty e : TypeId} {own o2 : Own} {es es2 : List D} {K : D → St → Prop} (he : elT P t = some e) (h : dappW P t tx ty (.sl own es) (.sl o2 es2) S K) : dapp P S t tx ty (.sl own es) (.sl o2 es2) K := dapp_step he h
theorem dappend_in {t tx ty e : TypeId} (he : elT P t = some e) (hx : (elT P tx).isSome = true) (hi : (P.info? e).isSome = true) {k off n c m : Nat} {bt : TypeId} {cs news : List D} {y : D} {K : D → St → Prop} (hk : S.ob k = some (.box bt cs)) (hs : SrcOk S (szOf P e) y m news)
    (hroom : n + m ≤ c) (hb : n + m ≤ 140737488355328) (hfit : off + (n + m) * szOf P e ≤ cs.length) {cs' : List D} (hcs : splice cs (off + n * szOf P e) news = cs') (h : K (.win k off (n + m) c) (S.set k (.box bt cs'))) : dappW P t tx ty (.win k off n c) y S K := by
  subst hcs
  intro base η w vs hM hr
  simp only [RepL] at hr
  obtain ⟨x1, _, rfl, r1, x2, _, rfl, r2, rfl⟩ := hr
  obtain ⟨us, s1, s2⟩ := srcOk_at hM hs r2
  obtain ⟨b, bs, rfl, hbb, g1, g2, g3, g4, g5⟩ := win_live hM hk r1
  obtain ⟨i, hi⟩ := Option.isSome_iff_exists.1 hi
  have hsz : szOf P e = i.size := by simp [szOf, hi]
  have hu := elT_spec he
  have hl := g2.length
  have hf : off + n * szOf P e + us.length ≤ bs.toArray.size := by
    rw [s1.len, List.size_toArray, hl, Nat.add_assoc, ← Nat.add_mul]; exact hfit
  have hrun := run_append_room_at (P := P) w t tx ty e i hu hi b off n c bt x2 m us (hsz ▸ s1.src hx) bs.toArray g1 hroom (hsz ▸ hf)
  have G := goes_set hM hk hbb (splice_len (by rw [hs.length, Nat.add_assoc, ← Nat.add_mul]; exact hfit)) (splice_rep g2 s2) (one_splice (off := off + n * szOf P e) g3 s1.one)
  refine ⟨_, _, η, _, _, hrun, h, by simp only [Rep]; exact .inl ⟨b, hbb, rfl, hroom, hb⟩, ?_⟩
  rw [← hsz]
  exact G
theorem dappend_new {t tx ty e : TypeId} (he : elT P t = some e) (hx : (elT P tx).isSome = true) (hz : zeroT P e = true) (hz2 : zeroOk P e = true) {n c m : Nat} {x : D} {olds news : List D} {y : D} {K : D → St → Prop} (ho : SrcOk S (szOf P e) x n olds) (hxc : ∀ k' off' n' c', x = .win k' off' n' c' → c' = c) (hxs : ∀ o es, x = .sl o es → o = .full ∧ c = es.length) (hs : SrcOk S (szOf P e) y m news)
    (hgrow : c < n + m) (hb : n + m ≤ 140737488355328) (hby : (n + m) * bytesOf P e ≤ 140737488355328)
    (h : ∀ (c' : Nat) (zs : List D), n + m ≤ c' → (olds ++ news ++ zs).length = c' * szOf P e → K (.win S.next 0 (n + m) c') (S.add (.box e (olds ++ news ++ zs)))) : dappW P t tx ty x y S K := by
  intro base η w vs hM hr
  simp only [RepL] at hr
  obtain ⟨x1, _, rfl, r1, x2, _, rfl, r2, rfl⟩ := hr
  obtain ⟨us, s1, s2⟩ := srcOk_at hM hs r2
  obtain ⟨os, o1, o2⟩ := srcOk_at hM ho r1
  obtain ⟨i, z, hi, hzr, hzs, hpos, hsz, hbz⟩ := zeroT_spec hz
  obtain ⟨z2, i2, hi2, hz2r, _, hz1, _⟩ := zeroOk_spec hz2
  rw [hi] at hi2
  injection hi2 with hi2
  subst hi2
  rw [hzr] at hz2r
  injection hz2r with hz2r
  subst hz2r
  have hu := elT_spec he
  have hel : (elT P t).isSome = true := by rw [he]; rfl
  obtain ⟨A, cc, e1, _, _⟩ := o1.sl
  have hcc : cc = c := by
    cases x with
    | win k' off' n' c' =>
      obtain ⟨A', e2, _⟩ := r1.win_slice
      rw [e1] at e2
      injection e2 with _ _ e2
      rw [e2]
      exact hxc _ _ _ _ rfl
    | sl o es =>
      obtain ⟨rfl, rfl⟩ := hxs _ _ rfl
      simp only [Rep, OwnAt] at r1
      obtain ⟨A', c', e2, _, _, rfl, _⟩ := r1
      rw [e1] at e2
      injection e2 with _ _ e2
    | _ => exact ho.elim
  subst hcc
  subst e1
  have hso := o1.src hel
  have hsn := s1.src hx
  rw [hsz] at hso hsn
  have hcold := hso.cellsD
  have hrun := run_append_grow_src (P := P) w t tx ty e i z hu hi hzr A n cc os hcold x2 m us hsn hgrow (by omega) (growslice_fits hgrow (by rw [← hbz]; exact hby))
  have G1 := goes_drew hM
  have hge := grownCap_ge w (n + m) cc e
  have G3 := G1.trans (goes_name G1.mem (.box e (olds ++ news ++ (Builtin.zeroCells z.cells (grownCap w (n + m) cc e - (n + m))).toList.map ofV)) ((os ++ us).toArray ++ Builtin.zeroCells z.cells (grownCap w (n + m) cc e - (n + m))) e
    (.inl ⟨_, os ++ us ++ (Builtin.zeroCells z.cells (grownCap w (n + m) cc e - (n + m))).toList, rfl, by apply Array.ext'; simp, RepL.append (RepL.append (G1.repL o2) (G1.repL s2)) (zeroD_rep _), fun u hu' => (List.mem_append.1 hu').elim (fun hh => (List.mem_append.1 hh).elim (o1.one u) (s1.one u)) fun hh => hz1 u (zeroCells_mem hh)⟩))
  refine ⟨_, _, _, _, _, hrun, h _ _ hge ?_, ?_, G3⟩
  · have e1 := size_zeroCells z.cells (grownCap w (n + m) cc e - (n + m))
    rw [← Array.length_toList] at e1
    rw [List.length_append, List.length_append, List.length_map, ho.length, hs.length, e1, hzs, hsz, ← Nat.add_mul, ← Nat.add_mul]
    congr 1
    omega
  · simp only [Rep]
    exact .inl ⟨w.heap.size, by simp only [Names.add, ↓reduceIte]; rfl, rfl, hge, hb⟩
/-! ### Owned slices -/
theorem DRun.thaw {run : List Value → Sem Value} {args : List D} {K : D → St → Prop} (h : DRun P run args S fun d S' => ∃ S1 d1, Thaw P S' d S1 d1 ∧ K d1 S1) : DRun P run args S K := fun base η w vs hM hr => by
  obtain ⟨d, S', η', v, w', h1, ⟨S1, d1, h2, h3⟩, h4, h5⟩ := h base η w vs hM hr
  obtain ⟨η2, k1, k2⟩ := h2 base η' w' v h5.mem h4
  exact ⟨d1, S1, η2, v, w', h1, h3, k2, h5.trans k1⟩
theorem DCalls.thaw {g : FuncId} {args : List D} {K : D → St → Prop} (h : DCalls P g args S fun d S' => ∃ S1 d1, Thaw P S' d S1 d1 ∧ K d1 S1) : DCalls P g args S K := fun base η w vs hM hr => by
  rcases h base η w vs hM hr with ⟨h1, h2⟩ | ⟨d, S', η', v, w', h1, ⟨S1, d1, h2, h3⟩, h4, h5⟩
  · refine .inl ⟨h1, h2.mono fun e w' ⟨d, S', η', v, ⟨S1, d1, h2, h3⟩, he, h4, h5⟩ => ?_⟩
    obtain ⟨η2, k1, k2⟩ := h2 base η' w' v h5.mem h4
    exact ⟨d1, S1, η2, v, h3, he, k2, h5.trans k1⟩
  · obtain ⟨η2, k1, k2⟩ := h2 base η' w' v h5.mem h4
    exact .inr ⟨d1, S1, η2, v, w', h1, h3, k2, h5.trans k1⟩
theorem goes_rename (h : Mem P base S η w) {k : Nat} {o : Ob} {b : Option Nat} (hk : S.ob k = some o) (hb : η k = some b) : Goes P base S η w ((S.drop k).add o) (η.add S.next b) w := by
  have hkn : k < S.next := h.lt (by rw [hb]; rfl)
  have ob_new : ((S.drop k).add o).ob S.next = some o := by simp [St.add, St.drop]
  have ob_old : ∀ j, j ≠ S.next → ((S.drop k).add o).ob j = if j = k then none else S.ob j := fun j hj => by simp [St.add, St.drop, hj]
  have ob_some : ∀ j o', ((S.drop k).add o).ob j = some o' → (j = S.next ∧ o' = o) ∨ (j ≠ S.next ∧ j ≠ k ∧ S.ob j = some o') := fun j o' hj => by
    by_cases e : j = S.next
    · subst e; rw [ob_new] at hj; injection hj with hj; exact .inl ⟨rfl, hj.symm⟩
    · rw [ob_old j e] at hj
      by_cases e2 : j = k
      · rw [if_pos e2] at hj; cases hj
      · rw [if_neg e2] at hj; exact .inr ⟨e, e2, hj⟩
  have eta_new : (η.add S.next b) S.next = some b := by simp [Names.add]
  have eta_old : ∀ j, j ≠ S.next → (η.add S.next b) j = η j := fun j hj => by simp [Names.add, hj]
  have K : Keep (fun _ => True) w η (Fix P S η) w (η.add S.next b) (Fix P ((S.drop k).add o) (η.add S.next b)) := by
    refine ⟨Nat.le_refl _, fun q i _ hx => ⟨fun j o' hj ho => ?_, rfl⟩, fun j c _ hj => ?_, fun q cur e hq => ⟨cur, hq, rfl⟩⟩
    · rcases ob_some j o' ho with ⟨rfl, rfl⟩ | ⟨e1, e2, e3⟩
      · rw [eta_new] at hj
        injection hj with hj
        exact hx k o' (by rw [hb, hj]) hk
      · rw [eta_old j e1] at hj
        exact hx j o' hj e3
    · have : j ≠ S.next := fun e => by subst e; rw [h.dead _ (Nat.le_refl _)] at hj; cases hj
      rw [eta_old j this]; exact hj
  have src : ∀ j b', (η.add S.next b) j = some (some b') → (((S.drop k).add o).ob j).isSome = true → ∃ j', η j' = some (some b') ∧ (S.ob j').isSome = true ∧ ((j = S.next ∧ j' = k) ∨ (j ≠ S.next ∧ j ≠ k ∧ j' = j)) := fun j b' hj ho => by
    obtain ⟨o', ho⟩ := Option.isSome_iff_exists.1 ho
    rcases ob_some j o' ho with ⟨rfl, rfl⟩ | ⟨e1, e2, e3⟩
    · rw [eta_new] at hj
      injection hj with hj
      exact ⟨k, by rw [hb, hj], by rw [hk]; rfl, .inl ⟨rfl, rfl⟩⟩
    · rw [eta_old j e1] at hj
      exact ⟨j, hj, by rw [e3]; rfl, .inr ⟨e1, e2, rfl⟩⟩
  refine ⟨⟨h.base_, fun j hj => ?_, fun j hj => ?_, fun j t cs hj => ?_, fun j j' b' h1 h2 h3 h4 => ?_, fun j b' hj => ?_, fun j t cs b' h1 h2 => ?_, fun j e n b' h1 h2 => ?_, h.glob⟩, K, Below.refl _ _, fun _ => Nat.le_refl _, Loops.refl _⟩
  · have hj' : S.next + 1 ≤ j := hj
    rw [eta_old j (by omega)]; exact h.dead j (by omega)
  · have hj' : S.next + 1 ≤ j := hj
    rw [ob_old j (by omega), if_neg (by omega)]; exact h.fresh j (by omega)
  · rcases ob_some j _ hj with ⟨rfl, rfl⟩ | ⟨e1, e2, e3⟩
    · obtain ⟨b', hb'⟩ := h.live k t cs hk
      rw [hb] at hb'
      injection hb' with hb'
      exact ⟨b', by rw [eta_new, hb']⟩
    · obtain ⟨b', hb'⟩ := h.live j t cs e3
      exact ⟨b', by rw [eta_old j e1]; exact hb'⟩
  · obtain ⟨i, a1, a2, a3⟩ := src j b' h1 h3
    obtain ⟨i', c1, c2, c3⟩ := src j' b' h2 h4
    have := h.inj i i' b' a1 c1 a2 c2
    rcases a3 with ⟨rfl, rfl⟩ | ⟨a3, a4, rfl⟩ <;> rcases c3 with ⟨rfl, rfl⟩ | ⟨c3, c4, rfl⟩
    · rfl
    · exact absurd this.symm c4
    · exact absurd this a4
    · exact this
  · by_cases e : j = S.next
    · subst e
      rw [eta_new] at hj
      injection hj with hj
      exact h.in_ k b' (by rw [hb, hj])
    · rw [eta_old j e] at hj; exact h.in_ j b' hj
  · rcases ob_some j _ h1 with ⟨rfl, rfl⟩ | ⟨e1, e2, e3⟩
    · rw [eta_new] at h2
      injection h2 with h2
      obtain ⟨vs, k1, k2, k3⟩ := h.box k t cs b' hk (by rw [hb, h2])
      exact ⟨vs, k1, RepL.keep K (allL_true _) k2, k3⟩
    · rw [eta_old j e1] at h2
      obtain ⟨vs, k1, k2, k3⟩ := h.box j t cs b' e3 h2
      exact ⟨vs, k1, RepL.keep K (allL_true _) k2, k3⟩
  · rcases ob_some j _ h1 with ⟨rfl, rfl⟩ | ⟨e1, e2, e3⟩
    · rw [eta_new] at h2
      injection h2 with h2
      exact h.row k e n b' hk (by rw [hb, h2])
    · rw [eta_old j e1] at h2
      exact h.row j e n b' e3 h2
theorem thaw_rename {k off n c : Nat} {o : Ob} (hk : S.ob k = some o) : Thaw P S (.win k off n c) ((S.drop k).add o) (.win S.next off n c) := fun base η w v hM hr => by
  simp only [Rep] at hr
  rcases hr with ⟨b, h1, h2⟩ | ⟨h1, h2⟩
  · exact ⟨_, goes_rename hM hk h1, by simp only [Rep]; exact .inl ⟨b, by simp [Names.add], h2⟩⟩
  · exact ⟨_, goes_rename hM hk h1, by simp only [Rep]; exact .inr ⟨by simp [Names.add], h2⟩⟩
theorem thaw_drop (k : Nat) (d : D) : Thaw P S d (S.drop k) d := fun base η w v hM hr => ⟨η, goes_drop hM k, (goes_drop hM k).rep hr⟩
theorem thaw_nil (e : TypeId) : Thaw P S (.sl .full []) (S.add (.row e 0)) (.win S.next 0 0 0) := fun base η w v hM hr => by
  simp only [Rep, OwnAt] at hr
  obtain ⟨A, c, rfl, _, _, rfl, _⟩ := hr
  refine ⟨_, goes_bare hM e 0, ?_⟩
  unfold Rep
  exact .inr ⟨by simp [Names.add], rfl, rfl, A, rfl⟩
theorem St.set_drop (S : St) (k : Nat) (o : Ob) : (S.set k o).drop k = S.drop k := by
  unfold St.set St.drop
  congr 1
  funext j
  by_cases h : j = k <;> simp [h]
theorem St.add_drop (S : St) {k : Nat} (o : Ob) (h : k < S.next) : (S.add o).drop k = (S.drop k).add o := by
  unfold St.add St.drop
  congr 1
  funext j
  by_cases h1 : j = k
  · subst h1
    simp
    omega
  · simp [h1]
theorem flat_append (l m : List D) : flat (l ++ m) = flat l ++ flat m := by simp [flat]
theorem ownOb_len {es zs : List D} {c z : Nat} (hw : ∀ d ∈ es, d.width = z) (hz : 0 < z) (h : (flat es ++ zs).length = c * z) : es.length ≤ c := by
  rw [List.length_append, dflat_length hw] at h
  rcases Nat.lt_or_ge c es.length with h' | h'
  · have : (c + 1) * z ≤ es.length * z := Nat.mul_le_mul_right _ h'
    rw [Nat.add_mul] at this
    omega
  · exact h'
theorem flat_take {es : List D} {z : Nat} (hw : ∀ d ∈ es, d.width = z) (q : Nat) : (flat es).take (q * z) = flat (es.take q) := by
  induction es generalizing q with
  | nil => simp [flat]
  | cons d es ih =>
    cases q with
    | zero => simp [flat]
    | succ q =>
      have h1 : d.cells.length = z := hw d (by simp)
      have h2 := ih (fun x hx => hw x (by simp [hx])) q
      have e1 : flat (d :: es) = d.cells ++ flat es := by simp [flat]
      have e2 : flat (d :: es.take q) = d.cells ++ flat (es.take q) := by simp [flat]
      rw [e1, List.take_succ_cons, e2, ← h2, List.take_append, h1, List.take_of_length_le (by rw [h1, Nat.add_mul]; omega)]
      congr 2
      rw [Nat.add_mul]; omega
theorem flat_drop {es : List D} {z : Nat} (hw : ∀ d ∈ es, d.width = z) (q : Nat) : (flat es).drop (q * z) = flat (es.drop q) := by
  induction es generalizing q with
  | nil => simp [flat]
  | cons d es ih =>
    cases q with
    | zero => simp
    | succ q =>
      have h1 : d.cells.length = z := hw d (by simp)
      have h2 := ih (fun x hx => hw x (by simp [hx])) q
      have e1 : flat (d :: es) = d.cells ++ flat es := by simp [flat]
      rw [e1, List.drop_succ_cons, ← h2, List.drop_append, h1, List.drop_of_length_le (by rw [h1, Nat.add_mul]; omega), List.nil_append]
      congr 1
      rw [Nat.add_mul]; omega
theorem srcOk_own {k c : Nat} {e : TypeId} {es zs : List D} {z : Nat} (hk : S.ob k = some (ownOb e es zs c)) (hc : es.length ≤ c) (hw : ∀ d ∈ es, d.width = z) {l n : Nat} (hq : l + n ≤ es.length) {c' : Nat} : SrcOk S z (.win k (l * z) n c') n (flat ((es.drop l).take n)) := by
  refine ⟨rfl, ?_⟩
  rcases Nat.eq_zero_or_pos c with rfl | h
  · have : es = [] := List.eq_nil_of_length_eq_zero (by omega)
    subst this
    have : n = 0 := by simp at hq; omega
    subst this
    exact .inl ⟨rfl, by simp [flat]⟩
  · rw [ownOb_box h] at hk
    have hf := dflat_length hw
    have hle : (l + n) * z ≤ es.length * z := Nat.mul_le_mul_right _ hq
    rw [Nat.add_mul] at hle
    refine .inr ⟨e, _, hk, ?_, ?_⟩
    · rw [List.length_append, hf]; omega
    · rw [List.drop_append_of_le_length (by rw [hf]; omega), List.take_append_of_le_length (by rw [List.length_drop, hf]; omega), flat_drop hw, flat_take fun d hd => hw d (List.mem_of_mem_drop hd)]
theorem srcOk_own0 {k c : Nat} {e : TypeId} {es zs : List D} {z : Nat} (hk : S.ob k = some (ownOb e es zs c)) (hc : es.length ≤ c) (hw : ∀ d ∈ es, d.width = z) {q : Nat} (hq : q ≤ es.length) {c' : Nat} : SrcOk S z (.win k 0 q c') q (flat (es.take q)) := by
  have := srcOk_own hk hc hw (l := 0) (n := q) (by omega) (c' := c')
  rwa [Nat.zero_mul, List.drop_zero] at this
theorem srcOk_ownA {k c : Nat} {e : TypeId} {es zs : List D} {z : Nat} (hk : S.ob k = some (ownOb e es zs c)) (hc : es.length ≤ c) (hw : ∀ d ∈ es, d.width = z) {c' : Nat} : SrcOk S z (.win k 0 es.length c') es.length (flat es) := by
  have := srcOk_own0 hk hc hw (Nat.le_refl _) (c' := c')
  rwa [List.take_of_length_le (Nat.le_refl _)] at this
theorem zeroT_pos {e : TypeId} (h : zeroT P e = true) : 0 < szOf P e ∧ (P.info? e).isSome = true := by
  obtain ⟨i, z, hi, _, _, hp, hs, _⟩ := zeroT_spec h
  exact ⟨by omega, by rw [hi]; rfl⟩
theorem dappend_own {t tx ty e : TypeId} (he : elT P t = some e) (hx : (elT P tx).isSome = true) (hz : zeroT P e = true) (hz2 : zeroOk P e = true) {k c m : Nat} {es es2 zs : List D} {y : D} {K : D → St → Prop} (hk : S.ob k = some (ownOb e es zs c)) (hl : (flat es ++ zs).length = c * szOf P e) (hw1 : ∀ d ∈ es, d.width = szOf P e) (hs : SrcOk S (szOf P e) y m (flat es2)) (hm : m = es2.length)
    (hb : es.length + es2.length ≤ 140737488355328) (hby : (es.length + es2.length) * bytesOf P e ≤ 140737488355328) (hkn : k < S.next)
    (h : ∀ (c' : Nat) (zs' : List D), es.length + es2.length ≤ c' → (flat (es ++ es2) ++ zs').length = c' * szOf P e → K (.win S.next 0 (es.length + es2.length) c') ((S.drop k).add (ownOb e (es ++ es2) zs' c'))) : dappW P t tx ty (.win k 0 es.length c) y S K := by
  subst hm
  obtain ⟨hzp, hi⟩ := zeroT_pos hz
  have hc := ownOb_len hw1 hzp hl
  refine DRun.thaw ?_
  by_cases hroom : es.length + es2.length ≤ c
  · rcases Nat.eq_zero_or_pos c with rfl | hpos
    · have e1 : es = [] := List.eq_nil_of_length_eq_zero (by omega)
      have e2 : es2 = [] := List.eq_nil_of_length_eq_zero (by omega)
      subst e1 e2
      rw [ownOb_nil] at hk
      intro base η w vs hM hr
      simp only [RepL] at hr
      obtain ⟨x1, _, rfl, r1, x2, _, rfl, r2, rfl⟩ := hr
      obtain ⟨us, s1, s2⟩ := srcOk_at hM hs r2
      have hus : us = [] := List.eq_nil_of_length_eq_zero (by rw [s1.len]; simp)
      subst hus
      obtain ⟨i, hi⟩ := Option.isSome_iff_exists.1 hi
      have hsz : szOf P e = i.size := by simp [szOf, hi]
      obtain ⟨A, rfl, _⟩ := r1.win_slice
      have hsrc := s1.src hx
      rw [hsz] at hsrc
      refine ⟨_, S, η, _, w, run_append_nothing w t tx ty e i (elT_spec he) hi A _ _ (Nat.le_refl _) x2 hsrc, ?_, r1, Goes.refl hM⟩
      exact ⟨_, _, thaw_rename hk, h 0 [] (Nat.le_refl _) (by simp [flat])⟩
    · have hk' := hk
      rw [ownOb_box hpos] at hk'
      have hfl := dflat_length hw1
      refine dappend_in he hx hi hk' hs hroom hb (by rw [Nat.zero_add, hl]; exact Nat.mul_le_mul_right _ hroom) rfl ?_
      refine ⟨_, _, thaw_rename (o := .box e (splice (flat es ++ zs) (0 + es.length * szOf P e) (flat es2))) (by simp [St.set]), ?_⟩
      have hsp : splice (flat es ++ zs) (0 + es.length * szOf P e) (flat es2) = flat (es ++ es2) ++ zs.drop (es2.length * szOf P e) := by
        rw [Nat.zero_add, ← hfl, flat_append]
        unfold splice
        rw [List.take_append_of_le_length (Nat.le_refl _), List.take_of_length_le (Nat.le_refl _), List.drop_append, hs.length]
        simp
      have h2 := h c (zs.drop (es2.length * szOf P e)) hroom (by
        rw [← hsp, splice_len, hl]
        rw [Nat.zero_add, hs.length, hl, ← Nat.add_mul]
        exact Nat.mul_le_mul_right _ hroom)
      rw [ownOb_box hpos, ← hsp] at h2
      rw [St.set_drop]
      exact h2
  · refine dappend_new he hx hz hz2 (srcOk_ownA hk hc hw1) (fun _ _ _ _ e => by injection e with _ _ _ e; exact e.symm) (fun _ _ e => by cases e) hs (by omega) hb hby fun c' zs hc' hl' => ?_
    refine ⟨_, _, thaw_drop k _, ?_⟩
    rw [St.add_drop S _ hkn]
    have := h c' zs hc' (by rw [flat_append]; exact hl')
    rw [ownOb_box (by omega), flat_append] at this
    exact this
theorem dappend_fresh {t tx ty e : TypeId} (he : elT P t = some e) (hx : (elT P tx).isSome = true) (hz : zeroT P e = true) (hz2 : zeroOk P e = true) {m : Nat} {es2 : List D} {y : D} {K : D → St → Prop} (hs : SrcOk S (szOf P e) y m (flat es2)) (hm : m = es2.length)
    (hb : es2.length ≤ 140737488355328) (hby : es2.length * bytesOf P e ≤ 140737488355328)
    (h : ∀ (c' : Nat) (zs' : List D), es2.length ≤ c' → (flat es2 ++ zs').length = c' * szOf P e → K (.win S.next 0 es2.length c') (S.add (ownOb e es2 zs' c'))) : dappW P t tx ty (.sl .full []) y S K := by
  subst hm
  obtain ⟨hzp, hi⟩ := zeroT_pos hz
  rcases Nat.eq_zero_or_pos es2.length with h0 | hpos
  · have e2 : es2 = [] := List.eq_nil_of_length_eq_zero h0
    subst e2
    refine DRun.thaw ?_
    intro base η w vs hM hr
    simp only [RepL] at hr
    obtain ⟨x1, _, rfl, r1, x2, _, rfl, r2, rfl⟩ := hr
    obtain ⟨us, s1, s2⟩ := srcOk_at hM hs r2
    have hus : us = [] := List.eq_nil_of_length_eq_zero (by rw [s1.len]; simp)
    subst hus
    obtain ⟨i, hi⟩ := Option.isSome_iff_exists.1 hi
    have hsz : szOf P e = i.size := by simp [szOf, hi]
    have hsrc := s1.src hx
    rw [hsz] at hsrc
    have r1' := r1
    simp only [Rep, OwnAt] at r1'
    obtain ⟨A, c, rfl, _, _, rfl, _⟩ := r1'
    refine ⟨_, S, η, _, w, run_append_nothing w t tx ty e i (elT_spec he) hi A _ _ (Nat.le_refl _) x2 hsrc, ?_, r1, Goes.refl hM⟩
    exact ⟨_, _, thaw_nil e, h 0 [] (Nat.le_refl _) (by simp [flat])⟩
  · refine dappend_new he hx hz hz2 (n := 0) (c := 0) (olds := []) ⟨(fun _ hx => by cases hx), rfl, rfl⟩ (fun _ _ _ _ e => by cases e) (fun _ _ e => by injection e with e1 e2; subst e1 e2; exact ⟨rfl, rfl⟩) hs (by omega) (by omega) (by rw [Nat.zero_add]; exact hby) fun c' zs hc' hl' => ?_
    simp only [List.nil_append, Nat.zero_add] at hc' hl' ⊢
    have := h c' zs hc' hl'
    rw [ownOb_box (by omega)] at this
    exact this
end
end Go.Proofs.Ytonncfminojejaa

namespace Go.Proofs.Ytonncfminojejaa
open Go.RowKit

section
variable {P : Program} {base : Nat} {S : St} {η : Names} {w : World}
theorem dclear_win {t ty e : TypeId} (he : elT P t = some e) (hz : zeroT P e = true) (hz2 : zeroOk P e = true) {k off n c : Nat} {bt : TypeId} {cs : List D} {K : D → St → Prop} (hk : S.ob k = some (.box bt cs)) (hfit : off + n * szOf P e ≤ cs.length)
    (h : ∀ zs : List D, zs.length = n * szOf P e → K (.tup []) (S.set k (.box bt (splice cs off zs)))) : dclear P #[t] ty (.win k off n c) S K := by
  intro base η w vs hM hr
  simp only [RepL] at hr
  obtain ⟨x1, _, rfl, r1, rfl⟩ := hr
  obtain ⟨b, bs, rfl, hb, g1, g2, g3, g4, g5⟩ := win_live hM hk r1
  obtain ⟨i, z, hi, hzr, hzs, hpos, hsz, hbz⟩ := zeroT_spec hz
  obtain ⟨z2, i2, hi2, hz2r, _, hz1, _⟩ := zeroOk_spec hz2
  rw [hi] at hi2
  injection hi2 with hi2
  subst hi2
  rw [hzr] at hz2r
  injection hz2r with hz2r
  subst hz2r
  have hu := elT_spec he
  have hl := g2.length
  have e1 := size_zeroCells z.cells n
  rw [← Array.length_toList, hzs, ← hsz] at e1
  have h1 : ∀ u ∈ (Builtin.zeroCells z.cells n).toList, u.oneCell' = true := fun u hu => hz1 u (zeroCells_mem hu)
  have hst := run_storeCells_at P b off bt (Builtin.zeroCells z.cells n).toList 0 bs.toArray w g1 (by rw [Nat.add_zero, e1, List.size_toArray, hl]; exact hfit) h1
  simp only [Nat.add_zero] at hst
  have hml : ((Builtin.zeroCells z.cells n).toList.map ofV).length = n * szOf P e := by rw [List.length_map, e1]
  have G := goes_set hM hk hb (splice_len (off := off) (ds := (Builtin.zeroCells z.cells n).toList.map ofV) (by rw [hml]; exact hfit)) (splice_rep g2 (zeroD_rep _)) (one_splice g3 h1)
  refine ⟨_, _, η, .tuple #[], _, ?_, h _ hml, by simp only [Rep, RepL]; exact ⟨[], rfl, rfl⟩, G⟩
  cases n with
  | zero =>
    have : Builtin.zeroCells z.cells 0 = #[] := by simp [Builtin.zeroCells]
    simp only [this, List.append_nil, List.length_nil, Nat.add_zero, List.take_append_drop]
    have e0 : w.setRow b bs.toArray = w := setRow_self w b bs.toArray bt (0, 0) g1
    simp [Builtin.clear_, run_underlying hu, e0]
  | succ n => simp [Builtin.clear_, run_underlying hu, zeroValue, typeInfo, hi, hzr, hst]
theorem splice_at {B C X : List D} {o : Nat} (ho : o = B.length) : splice (B ++ C) o X = B ++ X ++ C.drop X.length := by
  subst ho
  unfold splice
  rw [List.take_append_of_le_length (Nat.le_refl _), List.take_of_length_le (Nat.le_refl _), List.drop_append, List.drop_of_length_le (by omega), List.nil_append]
  congr 2
  omega
def OwnD (P : Program) (S : St) (e : TypeId) (es : List D) (d : D) : Prop := (es = [] ∧ d = .sl .full []) ∨ ∃ k c zs, d = .win k 0 es.length c ∧ S.ob k = some (ownOb e es zs c) ∧ (flat es ++ zs).length = c * szOf P e ∧ k < S.next
def St.left (S : St) : D → St
  | .win k _ _ _ => S.drop k
  | _ => S
theorem dapp_ownD {t tx ty e : TypeId} (he : elT P t = some e) (hx : (elT P tx).isSome = true) (hz : zeroT P e = true) (hz2 : zeroOk P e = true) {d : D} {es es2 : List D} {o2 : Own} {K : D → St → Prop} (hd : OwnD P S e es d) (hw1 : ∀ d ∈ es, d.width = szOf P e) (hw2 : ∀ d ∈ es2, d.width = szOf P e)
    (hb : es.length + es2.length ≤ 140737488355328) (hby : (es.length + es2.length) * bytesOf P e ≤ 140737488355328)
    (h : ∀ (c' : Nat) (zs' : List D), (flat (es ++ es2) ++ zs').length = c' * szOf P e → K (.win S.next 0 (es.length + es2.length) c') ((S.left d).add (ownOb e (es ++ es2) zs' c'))) : dapp P S t tx ty d (.sl o2 es2) K := by
  rcases hd with ⟨rfl, rfl⟩ | ⟨k, c, zs, rfl, hk, hl, hkn⟩
  · refine dapp_nil he (dappend_fresh he hx hz hz2 (srcOk_sl hw2) rfl (by simpa using hb) (by simpa using hby) fun c' zs' _ h2 => ?_)
    have := h c' zs' (by simpa using h2)
    simpa [St.left] using this
  · rw [dapp_atw]
    exact dappend_own he hx hz hz2 hk hl hw1 (srcOk_sl hw2) rfl hb hby hkn fun c' zs' _ h2 => h c' zs' h2
end
end Go.Proofs.Ytonncfminojejaa

namespace Go.Proofs.Ytonncfminojejaa
open Go.RowKit
def DQ.inl (P : Program) (rs : List ResultVar) (K : D → St → Prop) : DQ
  | .exit _, _, _ => False
  | _, f, S' => dresL P f S' rs fun ds => K (one ds) S'
theorem dcalls_inline {P : Program} (hm : P.follows .mixedOrders = true) {g : FuncId} {fn : Func} {c : Code} (hf : P.funcs[g]? = some fn) (hb : fn.body = some c) (hent : ∀ vs w, (callFunc g vs).run P w = .ok (.enter g vs) w) {rs : List ResultVar} (hrs : fn.results.toList = rs) {args : List D} (hok : (codeOk fn.ntmps c && fn.results.all (resOk fn.ntmps) && Nat.ble args.length fn.ntmps) = true) {S : St} {K : D → St → Prop}
    (h : S.WF → dwp P c (DQ.inl P rs K) (argF args) S) : DCalls P g args S K := by
  subst hrs
  intro base η w vs hM hr
  refine .inl ⟨hent _ _, ?_⟩
  simp only [Bool.and_eq_true] at hok
  obtain ⟨⟨hok1, hok2⟩, hok3⟩ := hok
  have hlen : args.length ≤ fn.ntmps := Nat.le_of_ble_eq_true hok3
  have hl := hr.length
  have hsz : (vs.toArray ++ Array.replicate (fn.ntmps - vs.toArray.size) undef).size = fn.ntmps := by simp; omega
  refine calls_of_wp hf hb ?_
  refine dwp_sound hm c (a := { tmps := vs.toArray ++ Array.replicate (fn.ntmps - vs.toArray.size) undef, defers := [] }) (by rw [hsz]; exact hok1) hM (fun t ht => ?_) (h hM.fresh) fun e f' S' η' w' a' k1 k2 k3 k4 k5 => ?_
  · rw [hsz] at ht
    simp only [argF]
    by_cases h1 : t < vs.length
    · obtain ⟨x, hx, hr'⟩ := hr.get t (List.getElem?_eq_getElem (by omega : t < args.length))
      have e1 : args.getD t undefD = args[t] := by rw [List.getD_eq_getElem?_getD, List.getElem?_eq_getElem (by omega : t < args.length)]; rfl
      have e2 : (vs.toArray ++ Array.replicate (fn.ntmps - vs.toArray.size) undef).getD t undef = x := by
        rw [Array.getD_eq_getD_getElem?, Array.getElem?_append_left (by simpa using h1)]
        simp [hx]
      rw [e1, e2]
      exact hr'
    · have e1 : args.getD t undefD = undefD := by rw [List.getD_eq_getElem?_getD, List.getElem?_eq_none (by omega)]; rfl
      have e2 : (vs.toArray ++ Array.replicate (fn.ntmps - vs.toArray.size) undef).getD t undef = undef := by
        rw [Array.getD_eq_getD_getElem?, Array.getElem?_append_right (by simpa using h1)]
        rw [Array.getElem?_replicate]
        split <;> rfl
      rw [e1, e2]
      simp only [Rep, RepL]
      exact ⟨[], rfl, rfl⟩
  · have hsz' : a'.tmps.size = fn.ntmps := by rw [k4]; exact hsz
    have hd' : a'.defers = [] := k5
    have fin : dresL P f' S' fn.results.toList (fun ds => K (one ds) S') → a'.defers = [] ∧ ∃ v, (results fn a'.tmps).run P w' = .ok v w' ∧ ∃ d S'' η'' u, K d S'' ∧ Ending.returned v = .returned u ∧ Rep P w' η'' (Fix P S'' η'') d u ∧ Goes P base S η w S'' η'' w' := fun hres => by
      obtain ⟨ds, v, hk, q7, q8⟩ := results_sound k2.mem k3 (by rw [hsz']; exact hok2) hres
      exact ⟨hd', v, q8, one ds, S', η', v, hk, rfl, q7, k2⟩
    cases e with
    | normal => exact fin k1
    | ret => exact fin k1
    | exit i => exact k1.elim
section
variable {P : Program} {S : St} {f : Fm} {K : D → St → Prop}
theorem inl_ret (t : Tmp) (S' : St) : DQ.inl P [.tmp t] K .ret f S' = K (f t) S' := by simp [DQ.inl, dresL, dres, onVal, one]
theorem inl_normal (t : Tmp) (S' : St) : DQ.inl P [.tmp t] K .normal f S' = K (f t) S' := by simp [DQ.inl, dresL, dres, onVal, one]
theorem inl_ret2 (t u : Tmp) (S' : St) : DQ.inl P [.tmp t, .tmp u] K .ret f S' = K (.tup [f t, f u]) S' := by simp [DQ.inl, dresL, dres, onVal, one]
theorem inl_normal2 (t u : Tmp) (S' : St) : DQ.inl P [.tmp t, .tmp u] K .normal f S' = K (.tup [f t, f u]) S' := by simp [DQ.inl, dresL, dres, onVal, one]
theorem inl_ret0 (S' : St) : DQ.inl P [] K .ret f S' = K undefD S' := by simp [DQ.inl, dresL, one]
theorem inl_normal0 (S' : St) : DQ.inl P [] K .normal f S' = K undefD S' := by simp [DQ.inl, dresL, one]
end
attribute [go_sem] inl_ret inl_normal inl_ret2 inl_normal2 inl_ret0 inl_normal0
def loopN (P : Program) (c : Code) (Q : DQ) : Nat → Fm → St → Prop
  | 0, _, _ => False
  | n + 1, f, S => dwp P c (DQ.then (loopN P c Q n) Q) f S
theorem dloop_fuel {P : Program} {c : Code} {Q : DQ} {f : Fm} {S : St} (n : Nat) (hS : S.WF) (hc : wrOk (fun _ => true) c = true) (h : loopN P c Q n f S) : DLoop (dwp P c) Q f S := by
  refine dloop_down (fun _ => true) hc hS (fun m g T => loopN P c Q m g T) n h fun m g T hT _ hI => ?_
  cases m with
  | zero => exact hI.elim
  | succ m =>
    refine dwp_mono c (fun e f2 S2 hq => ?_) hI
    cases e with
    | normal => exact ⟨m, S2.ob, by omega, fun _ _ h => h, hq⟩
    | exit i => exact hq
    | ret => exact hq
theorem loopN_eq {P : Program} {c : Code} {Q : DQ} {f : Fm} {S : St} (n : Nat) : loopN P c Q (n + 1) f S = dwp P c (DQ.then (loopN P c Q n) Q) f S := Eq.trans (Eq.refl _) (Eq.refl _)
end Go.Proofs.Ytonncfminojejaa

namespace Go.Proofs.Ytonncfminojejaa
open Go.RowKit
abbrev H32 := {l : List UInt8 // l.length = 32}
def encH (h : H32) : D := .agg (h.1.map bD)
abbrev DMk := Int × H32
def mkCs (m : DMk) : List D := .v (.int .i64 m.1) :: m.2.1.map bD
def encM (m : DMk) : D := .agg (mkCs m)
theorem cells_encM (m : DMk) : (encM m).cells = mkCs m := rfl
theorem cells_encH (h : H32) : (encH h).cells = h.1.map bD := rfl
theorem len_mkCs (m : DMk) : (mkCs m).length = 33 := by simp [mkCs, m.2.2]
theorem len_encH (h : H32) : (h.1.map bD).length = 32 := by simp [h.2]
theorem width_encM (m : DMk) : (encM m).width = 33 := len_mkCs m
theorem width_encH (h : H32) : (encH h).width = 32 := len_encH h
theorem okCell_encM (m : DMk) : (encM m).okCell = true := rfl
theorem okCell_encH (h : H32) : (encH h).okCell = true := rfl
theorem take_mkCs (m : DMk) : (mkCs m).take 33 = mkCs m := List.take_of_length_le (by rw [len_mkCs]; omega)
theorem take_hash (h : H32) : (h.1.map bD).take 32 = h.1.map bD := List.take_of_length_le (by rw [len_encH]; omega)
theorem agg_mkCs (m : DMk) : D.agg (mkCs m) = encM m := rfl
theorem agg_hash (h : H32) : D.agg (h.1.map bD) = encH h := rfl
def bV (b : UInt8) : Value := .int .u8 b.toNat
theorem vals_bytes : ∀ l : List UInt8, vals (l.map bD) = some (l.map bV)
  | [] => rfl
  | b :: l => by simp [vals, bD, bV, vals_bytes l]
def mkVs (m : DMk) : List Value := .int .i64 m.1 :: m.2.1.map bV
theorem vals_mkCs (m : DMk) : vals (mkCs m) = some (mkVs m) := by simp [mkCs, mkVs, vals, vals_bytes]
theorem valsEq_bytes : ∀ a b : List UInt8, valsEq (a.map bV) (b.map bV) = decide (a = b)
  | [], [] => by simp [valsEq]
  | [], _ :: _ => by simp [valsEq]
  | _ :: _, [] => by simp [valsEq]
  | x :: a, y :: b => by
    have ih := valsEq_bytes a b
    simp only [List.map_cons, valsEq, ih, bV, cellEq]
    rw [Bool.eq_iff_iff]
    simp [← UInt8.toNat_inj]
    omega
theorem valsEq_hash (a b : H32) : valsEq (a.1.map bV) (b.1.map bV) = decide (a = b) := by
  rw [valsEq_bytes]; congr 1; rw [Subtype.ext_iff]
theorem valsEq_mark (a b : DMk) : valsEq (mkVs a) (mkVs b) = decide (a = b) := by
  obtain ⟨d, a⟩ := a
  obtain ⟨e, b⟩ := b
  simp only [mkVs, valsEq, valsEq_hash, cellEq]
  rw [Bool.eq_iff_iff]
  simp
theorem bV_cell : bV = Go.Extern.Stop.cell := rfl
theorem equalIn_hash (d : Nat) (a b : H32) (w : World) : (Op.equalIn (d + 2) 44 (.agg (a.1.map bV).toArray) (.agg (b.1.map bV).toArray)).run Try.prog w = .ok (decide (a = b)) w := by
  rw [bV_cell, run_equalIn_bytes (P := Try.prog) w d 44 5 32 Try.underlying44 Try.underlying5 (fun w => by kernel_rfl) a.1 b.1 a.2 b.2]
  congr 1
  rw [Bool.eq_iff_iff]
  simp [Subtype.ext_iff]
theorem eqOk_hash {x y : Operand} (a b : H32) : EqOk Try.prog .eql 44 x y (a.1.map bV) (b.1.map bV) (decide (a = b)) ∧ EqOk Try.prog .neq 44 x y (a.1.map bV) (b.1.map bV) (!decide (a = b)) := by
  constructor <;> intro w
  · rw [Sem.run_bind, run_eqGuard_agg w _ _ _ _ _ _ (by kernel_rfl), Result.andThen_ok, run_eql_struct, equalIn_hash 9998 a b w, Result.andThen_ok]
  · rw [Sem.run_bind, run_eqGuard_agg w _ _ _ _ _ _ (by kernel_rfl), Result.andThen_ok, run_neq_struct, equalIn_hash 9998 a b w, Result.andThen_ok]
theorem part_depth (m : DMk) (w : World) : (part 3 (mkVs m).toArray 0).run Try.prog w = .ok (.int .i64 m.1) w := by
  have h : (isAgg 3).run Try.prog w = .ok false w := by kernel_rfl
  simp [part, Sem.run_bind, h, mkVs]
theorem part_id (m : DMk) (w : World) : (part 44 (mkVs m).toArray 1).run Try.prog w = .ok (.agg (m.2.1.map bV).toArray) w := by
  have h : (isAgg 44).run Try.prog w = .ok true w := by kernel_rfl
  have h2 : (Go.sizeOf 44).run Try.prog w = .ok 32 w := by kernel_rfl
  simp [part, Sem.run_bind, h, h2]
  exact List.take_of_length_le (by simp [mkVs, m.2.2])
theorem equalIn_mark (a b : DMk) (w : World) : (Op.equalIn 10000 96 (.agg (mkVs a).toArray) (.agg (mkVs b).toArray)).run Try.prog w = .ok (decide (a = b)) w := by
  rw [run_equalIn_agg w 9999 96 _ _ (by kernel_rfl) (by kernel_rfl)]
  have hf : (Try.prog.fieldsOf 96).toList.map (fun f => (f.type, f.offset, decide (f.name ≠ "_"))) = [(3, 0, true), (44, 1, true)] := by kernel_rfl
  generalize (Try.prog.fieldsOf 96).toList = fs at hf ⊢
  have hl : fs.length = 2 := by simpa using congrArg List.length hf
  match fs, hl with
  | [f, g], _ =>
    simp only [List.map_cons, List.map_nil, List.cons.injEq, Prod.mk.injEq, and_true] at hf
    obtain ⟨⟨f1, f2, f3⟩, g1, g2, g3⟩ := hf
    obtain ⟨d, a⟩ := a
    obtain ⟨e, b⟩ := b
    have f3' := of_decide_eq_true f3
    have g3' := of_decide_eq_true g3
    simp only [Op.eqFields, f3', g3', Sem.run_bind, Sem.run_ite, f1, f2, g1, g2, part_depth, part_id, Result.andThen_ok, run_equalIn_int w 9998 3 .i64 .i64 _ _ Try.underlying3, equalIn_hash 9997, ne_eq, not_false_eq_true, if_true]
    by_cases h1 : d = e
    · subst h1
      by_cases h2 : a = b
      · subst h2; simp
      · simp [h2]
    · simp [h1]
theorem eqOk_mark {x y : Operand} (a b : DMk) : EqOk Try.prog .eql 96 x y (mkVs a) (mkVs b) (decide (a = b)) ∧ EqOk Try.prog .neq 96 x y (mkVs a) (mkVs b) (!decide (a = b)) := by
  constructor <;> intro w
  · rw [Sem.run_bind, run_eqGuard_agg w _ _ _ _ _ _ (by kernel_rfl), Result.andThen_ok, run_eql_struct, equalIn_mark a b w, Result.andThen_ok]
  · rw [Sem.run_bind, run_eqGuard_agg w _ _ _ _ _ _ (by kernel_rfl), Result.andThen_ok, run_neq_struct, equalIn_mark a b w, Result.andThen_ok]
section
variable {x y : Operand} {K : D → Prop} {K' : D → St → Prop} {S : St}
theorem bin_eqM (a b : DMk) : dbin Try.prog .eql 96 x y (encM a) (encM b) = some (EqOk Try.prog .eql 96 x y (mkVs a) (mkVs b) (decide (a = b)), .v (.bool (decide (a = b)))) := by
  simp only [dbin, encM, vals_mkCs, dbinA, valsEq_mark]
theorem bin_eqH (a b : H32) : dbin Try.prog .eql 44 x y (encH a) (encH b) = some (EqOk Try.prog .eql 44 x y (a.1.map bV) (b.1.map bV) (decide (a = b)), .v (.bool (decide (a = b)))) := by
  simp only [dbin, encH, vals_bytes, dbinA, valsEq_hash]
theorem bin_neH (a b : H32) : dbin Try.prog .neq 44 x y (encH a) (encH b) = some (EqOk Try.prog .neq 44 x y (a.1.map bV) (b.1.map bV) (!decide (a = b)), .v (.bool (!decide (a = b)))) := by
  simp only [dbin, encH, vals_bytes, dbinA, valsEq_hash]
theorem onVal_eqM (a b : DMk) : onVal (dbin Try.prog .eql 96 x y (encM a) (encM b)) K = K (.v (.bool (decide (a = b)))) := by
  rw [bin_eqM, onVal_some]; exact propext ⟨fun h => h.2, fun h => ⟨(eqOk_mark a b).1, h⟩⟩
theorem onValS_eqM (a b : DMk) : onValS (dbin Try.prog .eql 96 x y (encM a) (encM b)) K' S = K' (.v (.bool (decide (a = b)))) S := by
  rw [bin_eqM, onValS_some]; exact propext ⟨fun h => h.2, fun h => ⟨(eqOk_mark a b).1, h⟩⟩
theorem onVal_eqH (a b : H32) : onVal (dbin Try.prog .eql 44 x y (encH a) (encH b)) K = K (.v (.bool (decide (a = b)))) := by
  rw [bin_eqH, onVal_some]; exact propext ⟨fun h => h.2, fun h => ⟨(eqOk_hash a b).1, h⟩⟩
theorem onVal_neH (a b : H32) : onVal (dbin Try.prog .neq 44 x y (encH a) (encH b)) K = K (.v (.bool (!decide (a = b)))) := by
  rw [bin_neH, onVal_some]; exact propext ⟨fun h => h.2, fun h => ⟨(eqOk_hash a b).2, h⟩⟩
theorem onValS_eqH (a b : H32) : onValS (dbin Try.prog .eql 44 x y (encH a) (encH b)) K' S = K' (.v (.bool (decide (a = b)))) S := by
  rw [bin_eqH, onValS_some]; exact propext ⟨fun h => h.2, fun h => ⟨(eqOk_hash a b).1, h⟩⟩
theorem onValS_neH (a b : H32) : onValS (dbin Try.prog .neq 44 x y (encH a) (encH b)) K' S = K' (.v (.bool (!decide (a = b)))) S := by
  rw [bin_neH, onValS_some]; exact propext ⟨fun h => h.2, fun h => ⟨(eqOk_hash a b).2, h⟩⟩
end
attribute [go_sem] onVal_eqM onValS_eqM onVal_eqH onVal_neH onValS_eqH onValS_neH cells_encM cells_encH take_mkCs take_hash agg_mkCs agg_hash len_mkCs len_encH width_encM width_encH okCell_encM okCell_encH
end Go.Proofs.Ytonncfminojejaa

namespace Go.Proofs.Ytonncfminojejaa
open Go.RowKit
theorem dat_of_dwpL {P : Program} (hm : P.follows .mixedOrders = true) {g : FuncId} {fn : Func} {c : Code} (hf : P.funcs[g]? = some fn) (hb : fn.body = some c) (hent : ∀ vs w, (callFunc g vs).run P w = .ok (.enter g vs) w) {rs : List ResultVar} (hrs : fn.results.toList = rs) {args : List D} (hok : (codeOk fn.ntmps c && fn.results.all (resOk fn.ntmps) && Nat.ble args.length fn.ntmps) = true) {d : D} (hc : d.closed) {S : St}
    (h : S.WF → dwp P c (DQ.pfin P rs S d) (argF args) S) : DAt P g args S d :=
  dcalls_of_dwp hm hf hb hent hrs hok fun hw => dwp_mono c (pfin_fin hw hc) (h hw)
theorem go_at {P : Program} {g : FuncId} {args : List D} {S : St} {d : D} {K : D → St → Prop} (h : DAt P g args S d) (k : K d S) : DCalls P g args S K := h.mono fun _ _ hq => by rw [hq.1, hq.2]; exact k
def cmpI (a b : Int) : Int := if a < b then -1 else if b < a then 1 else 0
def cmpL : List UInt8 → List UInt8 → Int
  | [], [] => 0
  | [], _ :: _ => -1
  | _ :: _, [] => 1
  | x :: a, y :: b => if x = y then cmpL a b else cmpI x.toNat y.toNat
def cmpH (a b : H32) : Int := cmpL a.1 b.1
theorem ite_gt (a b : Int) : decide (a > b) = decide (b < a) := rfl
section
set_option maxRecDepth 200000
theorem nanB_d (a : UInt8) : DPure Try.prog 80 [bD a] (.v (.bool false)) := by
  refine dpure_of_dwp mixed Try.func80 rfl (fun _ _ => by kernel_rfl) (rs := [.tmp 2]) rfl (by kernel_rfl) trivial (fun S hS => ?_)
  (simp (disch := first | decide | omega | (simp only [nx]; first | done | omega)) only [go_sem, bD, bne_self_eq_false]; (repeat with_reducible refine aI ?_))
  refine ⟨?_, (by (repeat' first | assumption | exact St.Sub.refl _ | exact RowOk.sub (by assumption) (by assumption) | refine St.Sub.trans ?_ (RowOk.sub (by assumption) (by assumption)) | refine St.Sub.add ?_ ?_ _ | refine St.Sub.set ?_ ?_ ?_ _ | refine St.Sub.keep ?_ ?_ | refine St.WF.leave ?_ _ | refine St.WF.add ?_ _ | refine St.WF.set ?_ ?_ _ | refine St.WF.grow ?_ _ _ _ | refine St.WF.keep ?_ ?_ | (first | omega | (simp only [RowOk.lo, nx]; first | done | omega))))⟩
  rfl
theorem cmpB_d (a b : UInt8) : DPure Try.prog 65 [bD a, bD b] (.v (.int .i64 (cmpI a.toNat b.toNat))) := by
  refine dpure_of_dwp mixed Try.func65 rfl (fun _ _ => by kernel_rfl) (rs := [.tmp 4]) rfl (by kernel_rfl) trivial (fun S hS => ?_)
  (simp (disch := first | decide | omega | (simp only [nx]; first | done | omega)) only [go_sem]; (repeat with_reducible refine aI ?_))
  refine DCalls.of_pure (nanB_d a) ?_
  (simp (disch := first | decide | omega | (simp only [nx]; first | done | omega)) only [go_sem]; (repeat with_reducible refine aI ?_))
  refine DCalls.of_pure (nanB_d b) ?_
  (simp (disch := first | decide | omega | (simp only [nx]; first | done | omega)) only [go_sem, bD]; (repeat with_reducible refine aI ?_))
  by_cases h1 : (a.toNat : Int) < b.toNat
  · have b1 : decide ((a.toNat : Int) < b.toNat) = true := decide_eq_true h1
    (simp (disch := first | decide | omega | (simp only [nx]; first | done | omega)) only [go_sem, b1, bD]; (repeat with_reducible refine aI ?_))
    refine ⟨?_, (by (repeat' first | assumption | exact St.Sub.refl _ | exact RowOk.sub (by assumption) (by assumption) | refine St.Sub.trans ?_ (RowOk.sub (by assumption) (by assumption)) | refine St.Sub.add ?_ ?_ _ | refine St.Sub.set ?_ ?_ ?_ _ | refine St.Sub.keep ?_ ?_ | refine St.WF.leave ?_ _ | refine St.WF.add ?_ _ | refine St.WF.set ?_ ?_ _ | refine St.WF.grow ?_ _ _ _ | refine St.WF.keep ?_ ?_ | (first | omega | (simp only [RowOk.lo, nx]; first | done | omega))))⟩
    simp only [D.frz, cmpI, if_pos h1]
  · have b1 : decide ((a.toNat : Int) < b.toNat) = false := decide_eq_false h1
    by_cases h2 : (b.toNat : Int) < a.toNat
    · have b2 : decide ((b.toNat : Int) < a.toNat) = true := decide_eq_true h2
      (simp (disch := first | decide | omega | (simp only [nx]; first | done | omega)) only [go_sem, b1, b2, ite_gt, bD]; (repeat with_reducible refine aI ?_))
      refine ⟨?_, (by (repeat' first | assumption | exact St.Sub.refl _ | exact RowOk.sub (by assumption) (by assumption) | refine St.Sub.trans ?_ (RowOk.sub (by assumption) (by assumption)) | refine St.Sub.add ?_ ?_ _ | refine St.Sub.set ?_ ?_ ?_ _ | refine St.Sub.keep ?_ ?_ | refine St.WF.leave ?_ _ | refine St.WF.add ?_ _ | refine St.WF.set ?_ ?_ _ | refine St.WF.grow ?_ _ _ _ | refine St.WF.keep ?_ ?_ | (first | omega | (simp only [RowOk.lo, nx]; first | done | omega))))⟩
      simp only [D.frz, cmpI, if_neg h1, if_pos h2]
    · have b2 : decide ((b.toNat : Int) < a.toNat) = false := decide_eq_false h2
      (simp (disch := first | decide | omega | (simp only [nx]; first | done | omega)) only [go_sem, b1, b2, ite_gt, bD]; (repeat with_reducible refine aI ?_))
      refine ⟨?_, (by (repeat' first | assumption | exact St.Sub.refl _ | exact RowOk.sub (by assumption) (by assumption) | refine St.Sub.trans ?_ (RowOk.sub (by assumption) (by assumption)) | refine St.Sub.add ?_ ?_ _ | refine St.Sub.set ?_ ?_ ?_ _ | refine St.Sub.keep ?_ ?_ | refine St.WF.leave ?_ _ | refine St.WF.add ?_ _ | refine St.WF.set ?_ ?_ _ | refine St.WF.grow ?_ _ _ _ | refine St.WF.keep ?_ ?_ | (first | omega | (simp only [RowOk.lo, nx]; first | done | omega))))⟩
      simp only [D.frz, cmpI, if_neg h1, if_neg h2]
end
end Go.Proofs.Ytonncfminojejaa

namespace Go.Proofs.Ytonncfminojejaa
open Go.RowKit
structure WinB (S : St) (k off : Nat) (l : List UInt8) : Prop where
  ex : ∃ t cs, S.ob k = some (.box t cs) ∧ ∀ i (h : i < l.length), off + i < cs.length ∧ cs.getD (off + i) undefD = bD l[i]
theorem cmpL_drop (l m : List UInt8) (i : Nat) (h1 : i < l.length) (h2 : i < m.length) : cmpL (l.drop i) (m.drop i) = if l[i] = m[i] then cmpL (l.drop (i + 1)) (m.drop (i + 1)) else cmpI l[i].toNat m[i].toNat := by
  rw [List.drop_eq_getElem_cons h1, List.drop_eq_getElem_cons h2, cmpL]
theorem cmpI_zero (a b : UInt8) : (cmpI a.toNat b.toNat != 0) = !decide (a = b) := by
  unfold cmpI
  have he : a = b ↔ a.toNat = b.toNat := UInt8.toNat_inj.symm
  by_cases h1 : a.toNat < b.toNat
  · have : (a.toNat : Int) < b.toNat := by omega
    rw [if_pos this, decide_eq_false (fun h => by rw [he] at h; omega)]; rfl
  · by_cases h2 : b.toNat < a.toNat
    · have h3 : (b.toNat : Int) < a.toNat := by omega
      rw [if_neg (by omega), if_pos h3, decide_eq_false (fun h => by rw [he] at h; omega)]; rfl
    · rw [if_neg (by omega), if_neg (by omega), decide_eq_true (he.2 (by omega))]; rfl
section
set_option maxRecDepth 200000
set_option maxHeartbeats 4000000
theorem cmpL_at {S : St} {k off c k2 off2 c2 : Nat} {l m : List UInt8} (hl : WinB S k off l) (hm : WinB S k2 off2 m) (hll : l.length ≤ 1000000) (hml : m.length ≤ 1000000) : DAt Try.prog 50 [.win k off l.length c, .win k2 off2 m.length c2] S (.v (.int .i64 (cmpL l m))) := by
  refine dat_of_dwpL mixed Try.func50 rfl (fun _ _ => by kernel_rfl) (rs := [.tmp 4]) rfl (by kernel_rfl) (by trivial) (fun hS => ?_)
  obtain ⟨t1, cs1, hk1, hb1⟩ := hl.ex
  obtain ⟨t2, cs2, hk2, hb2⟩ := hm.ex
  (simp (disch := first | decide | omega | (simp only [nx]; first | done | omega)) only [go_sem]; (repeat with_reducible refine aI ?_))
  (refine dloop_st (fun t => List.contains [4, 5, 6, 7, 8, 11, 12, 13, 14, 15, 16, 17, 18, 19, 20, 21, 22, 23, 24, 25, 26, 27, 28, 29, 30] t) (by kernel_rfl) ?_ (l.length) (fun i f => i ≤ l.length ∧ f 11 = .v (.int .i64 (i : Nat)) ∧ (i ≤ m.length ∧ cmpL l m = cmpL (l.drop i) (m.drop i))) ?_ ?_; (exact (by (repeat' first | assumption | refine St.WF.leave ?_ _ | refine St.WF.add ?_ _ | refine St.WF.set ?_ ?_ _ | refine St.WF.grow ?_ _ _ _ | refine St.WF.keep ?_ ?_ | (first | omega | (simp only [RowOk.lo, nx]; first | done | omega))))); (exact ⟨(by omega), (by (first | (simp (disch := first | decide | omega | (simp only [nx]; first | done | omega)) only [go_sem]; first | done | rfl) | rfl)), (⟨Nat.zero_le _, rfl⟩)⟩); intro i g tn hn hT hg hI; obtain ⟨le, q11, hc⟩ := hI; have q0 := hg 0 rfl; have q1 := hg 1 rfl; have q9 := hg 9 rfl; have q10 := hg 10 rfl; simp (disch := first | decide | omega | (simp only [nx]; first | done | omega)) only [go_sem] at q0 q1 q9 q10; clear hg; have hn' := hn; try simp only [add_next, set_next, grow_next, leave_next, drop_next] at hn')
  obtain ⟨him, hce⟩ := hc
  by_cases hlt : i < l.length
  · have b1 : decide ((i : Int) < (l.length : Int)) = true := by simp; omega
    have w1 : IntKind.i64.wrap ((i : Int) + 1) = ((i + 1 : Nat) : Int) := IntWalk.i64_in _ ⟨by omega, by omega⟩
    obtain ⟨x1, x2⟩ := hb1 i hlt
    by_cases hmt : i < m.length
    · have b2 : decide ((i : Int) ≥ (m.length : Int)) = false := by simp; omega
      obtain ⟨y1, y2⟩ := hb2 i hmt
      rw [cmpL_drop l m i hlt hmt] at hce
      (simp (disch := first | decide | omega | (simp only [nx]; first | done | omega)) only [go_sem, q0, q1, q9, q10, q11, b1, b2, hk1, hk2, x2, y2, Nat.mul_one]; (repeat with_reducible refine aI ?_))
      refine DCalls.of_pure (cmpB_d l[i] m[i]) ?_
      (simp (disch := first | decide | omega | (simp only [nx]; first | done | omega)) only [go_sem, cmpI_zero]; (repeat with_reducible refine aI ?_))
      by_cases he : l[i] = m[i]
      · have b3 : (!decide (l[i] = m[i])) = false := by simp [he]
        rw [if_pos he] at hce
        (simp (disch := first | decide | omega | (simp only [nx]; first | done | omega)) only [go_sem, b3, q11, w1]; (repeat with_reducible refine aI ?_))
        (refine ⟨by omega, (by (repeat' first | assumption | exact St.Sub.refl _ | exact RowOk.sub (by assumption) (by assumption) | refine St.Sub.trans ?_ (RowOk.sub (by assumption) (by assumption)) | refine St.Sub.add ?_ ?_ _ | refine St.Sub.set ?_ ?_ ?_ _ | refine St.Sub.keep ?_ ?_ | refine St.WF.leave ?_ _ | refine St.WF.add ?_ _ | refine St.WF.set ?_ ?_ _ | refine St.WF.grow ?_ _ _ _ | refine St.WF.keep ?_ ?_ | (first | omega | (simp only [RowOk.lo, nx]; first | done | omega)))), ?_⟩; refine ⟨by omega, ?_, ?_⟩; all_goals (try (first | (simp (disch := first | decide | omega | (simp only [nx]; first | done | omega)) only [go_sem, w1]; first | done | rfl) | rfl)))
        exact ⟨by omega, hce⟩
      · have b3 : (!decide (l[i] = m[i])) = true := by simp [he]
        rw [if_neg he] at hce
        (simp (disch := first | decide | omega | (simp only [nx]; first | done | omega)) only [go_sem, b3]; (repeat with_reducible refine aI ?_))
        refine ⟨?_, (by (repeat' first | assumption | exact St.Sub.refl _ | exact RowOk.sub (by assumption) (by assumption) | refine St.Sub.trans ?_ (RowOk.sub (by assumption) (by assumption)) | refine St.Sub.add ?_ ?_ _ | refine St.Sub.set ?_ ?_ ?_ _ | refine St.Sub.keep ?_ ?_ | refine St.WF.leave ?_ _ | refine St.WF.add ?_ _ | refine St.WF.set ?_ ?_ _ | refine St.WF.grow ?_ _ _ _ | refine St.WF.keep ?_ ?_ | (first | omega | (simp only [RowOk.lo, nx]; first | done | omega))))⟩
        simp only [D.frz, hce]
    · have b2 : decide ((i : Int) ≥ (m.length : Int)) = true := by simp; omega
      (simp (disch := first | decide | omega | (simp only [nx]; first | done | omega)) only [go_sem, q0, q1, q9, q10, q11, b1, b2, hk1, hk2, x2, Nat.mul_one]; (repeat with_reducible refine aI ?_))
      refine ⟨?_, (by (repeat' first | assumption | exact St.Sub.refl _ | exact RowOk.sub (by assumption) (by assumption) | refine St.Sub.trans ?_ (RowOk.sub (by assumption) (by assumption)) | refine St.Sub.add ?_ ?_ _ | refine St.Sub.set ?_ ?_ ?_ _ | refine St.Sub.keep ?_ ?_ | refine St.WF.leave ?_ _ | refine St.WF.add ?_ _ | refine St.WF.set ?_ ?_ _ | refine St.WF.grow ?_ _ _ _ | refine St.WF.keep ?_ ?_ | (first | omega | (simp only [RowOk.lo, nx]; first | done | omega))))⟩
      rw [hce, List.drop_eq_getElem_cons hlt, List.drop_eq_nil_of_le (by omega : m.length ≤ i)]
      rfl
  · have b1 : decide ((i : Int) < (l.length : Int)) = false := by simp; omega
    by_cases hmt : l.length < m.length
    · have b2 : decide ((l.length : Int) < (m.length : Int)) = true := by simp; omega
      (simp (disch := first | decide | omega | (simp only [nx]; first | done | omega)) only [go_sem, q0, q1, q9, q10, q11, b1, b2]; (repeat with_reducible refine aI ?_))
      refine ⟨?_, (by (repeat' first | assumption | exact St.Sub.refl _ | exact RowOk.sub (by assumption) (by assumption) | refine St.Sub.trans ?_ (RowOk.sub (by assumption) (by assumption)) | refine St.Sub.add ?_ ?_ _ | refine St.Sub.set ?_ ?_ ?_ _ | refine St.Sub.keep ?_ ?_ | refine St.WF.leave ?_ _ | refine St.WF.add ?_ _ | refine St.WF.set ?_ ?_ _ | refine St.WF.grow ?_ _ _ _ | refine St.WF.keep ?_ ?_ | (first | omega | (simp only [RowOk.lo, nx]; first | done | omega))))⟩
      rw [hce, List.drop_eq_nil_of_le (by omega : l.length ≤ i), List.drop_eq_getElem_cons (by omega : i < m.length)]
      rfl
    · have b2 : decide ((l.length : Int) < (m.length : Int)) = false := by simp; omega
      (simp (disch := first | decide | omega | (simp only [nx]; first | done | omega)) only [go_sem, q0, q1, q9, q10, q11, b1, b2]; (repeat with_reducible refine aI ?_))
      refine ⟨?_, (by (repeat' first | assumption | exact St.Sub.refl _ | exact RowOk.sub (by assumption) (by assumption) | refine St.Sub.trans ?_ (RowOk.sub (by assumption) (by assumption)) | refine St.Sub.add ?_ ?_ _ | refine St.Sub.set ?_ ?_ ?_ _ | refine St.Sub.keep ?_ ?_ | refine St.WF.leave ?_ _ | refine St.WF.add ?_ _ | refine St.WF.set ?_ ?_ _ | refine St.WF.grow ?_ _ _ _ | refine St.WF.keep ?_ ?_ | (first | omega | (simp only [RowOk.lo, nx]; first | done | omega))))⟩
      rw [hce, List.drop_eq_nil_of_le (by omega : l.length ≤ i), List.drop_eq_nil_of_le (by omega : m.length ≤ i)]
      rfl
theorem cmpL_st {S : St} {k off c k2 off2 c2 : Nat} {l m : List UInt8} (hl : WinB S k off l) (hm : WinB S k2 off2 m) (hll : l.length ≤ 1000000) (hml : m.length ≤ 1000000) : DSt Try.prog 50 [.win k off l.length c, .win k2 off2 m.length c2] S (.v (.int .i64 (cmpL l m))) := fun T _ hT => by
  obtain ⟨t1, cs1, hk1, hb1⟩ := hl.ex
  obtain ⟨t2, cs2, hk2, hb2⟩ := hm.ex
  exact cmpL_at ⟨t1, cs1, hT _ _ hk1, hb1⟩ ⟨t2, cs2, hT _ _ hk2, hb2⟩ hll hml
theorem cmpH_st {S : St} {k off c k2 off2 c2 : Nat} (a b : H32) (hl : WinB S k off a.1) (hm : WinB S k2 off2 b.1) : DSt Try.prog 50 [.win k off 32 c, .win k2 off2 32 c2] S (.v (.int .i64 (cmpH a b))) := by
  have := cmpL_st (c := c) (c2 := c2) hl hm (by rw [a.2]; omega) (by rw [b.2]; omega)
  rwa [a.2, b.2] at this
theorem winB_hash {S : St} {k : Nat} {t : TypeId} (m : H32) (h : S.ob k = some (.box t (m.1.map bD))) : WinB S k 0 m.1 := ⟨t, m.1.map bD, h, fun i hi => by
  have := m.2
  refine ⟨by rw [List.length_map]; omega, ?_⟩
  rw [Nat.zero_add, List.getD_eq_getElem?_getD, List.getElem?_map, List.getElem?_eq_getElem hi]
  rfl⟩
theorem getD_mkCs (m : DMk) : (mkCs m).getD 0 undefD = .v (.int .i64 m.1) := rfl
end
end Go.Proofs.Ytonncfminojejaa

namespace Go.Proofs.Ytonncfminojejaa
open Go.RowKit
def valB : List UInt8 → Nat
  | [] => 0
  | x :: l => x.toNat * 256 ^ l.length + valB l
theorem valB_lt : ∀ l : List UInt8, valB l < 256 ^ l.length
  | [] => by simp [valB]
  | x :: l => by
    have ih := valB_lt l
    have hx : x.toNat < 256 := x.toNat_lt
    rw [valB, List.length_cons, Nat.pow_succ]
    have h1 : (x.toNat + 1) * 256 ^ l.length ≤ 256 * 256 ^ l.length := Nat.mul_le_mul_right _ (by omega)
    rw [Nat.add_mul, Nat.one_mul] at h1
    omega
theorem cmpL_val : ∀ a b : List UInt8, a.length = b.length → cmpL a b = cmpI (valB a) (valB b) ∧ (valB a = valB b → a = b)
  | [], [], _ => ⟨by simp [cmpL, cmpI, valB], fun _ => rfl⟩
  | [], _ :: _, h => by simp at h
  | _ :: _, [], h => by simp at h
  | x :: a, y :: b, h => by
    have hl : a.length = b.length := by simpa using h
    obtain ⟨i1, i2⟩ := cmpL_val a b hl
    have ha := valB_lt a
    have hb := valB_lt b
    rw [hl] at ha
    rw [cmpL, valB, valB, hl]
    by_cases hxy : x = y
    · subst hxy
      rw [if_pos rfl, i1]
      refine ⟨?_, fun h => ?_⟩
      · unfold cmpI
        by_cases h1 : (valB a : Int) < valB b
        · rw [if_pos h1, if_pos (by omega)]
        · by_cases h2 : (valB b : Int) < valB a
          · rw [if_neg h1, if_pos h2, if_neg (by omega), if_pos (by omega)]
          · rw [if_neg h1, if_neg h2, if_neg (by omega), if_neg (by omega)]
      · rw [i2 (by omega)]
    · rw [if_neg hxy]
      have hne : x.toNat ≠ y.toNat := fun h => hxy (UInt8.toNat_inj.1 h)
      rcases Nat.lt_or_gt_of_ne hne with h1 | h1
      · have h2 : (x.toNat + 1) * 256 ^ b.length ≤ y.toNat * 256 ^ b.length := Nat.mul_le_mul_right _ h1
        rw [Nat.add_mul, Nat.one_mul] at h2
        refine ⟨?_, fun h => by omega⟩
        unfold cmpI
        rw [if_pos (by omega), if_pos (by omega)]
      · have h2 : (y.toNat + 1) * 256 ^ b.length ≤ x.toNat * 256 ^ b.length := Nat.mul_le_mul_right _ h1
        rw [Nat.add_mul, Nat.one_mul] at h2
        refine ⟨?_, fun h => by omega⟩
        unfold cmpI
        rw [if_neg (by omega), if_pos (by omega), if_neg (by omega), if_pos (by omega)]
def valH (h : H32) : Nat := valB h.1
theorem valH_lt (h : H32) : valH h < 256 ^ 32 := by have := valB_lt h.1; rwa [h.2] at this
theorem valH_inj {a b : H32} (h : valH a = valH b) : a = b := Subtype.ext ((cmpL_val a.1 b.1 (a.2.trans b.2.symm)).2 h)
theorem cmpH_val (a b : H32) : cmpH a b = cmpI (valH a) (valH b) := (cmpL_val a.1 b.1 (a.2.trans b.2.symm)).1
def key (m : DMk) : Int := m.1 * (256 ^ 32 : Nat) + (valH m.2 : Nat)
theorem key_lt_iff (a b : DMk) : key a < key b ↔ a.1 < b.1 ∨ a.1 = b.1 ∧ valH a.2 < valH b.2 := by
  have ha := valH_lt a.2
  have hb := valH_lt b.2
  unfold key
  generalize (256 ^ 32 : Nat) = N at *
  constructor
  · intro h
    rcases Int.lt_trichotomy a.1 b.1 with h1 | h1 | h1
    · exact .inl h1
    · refine .inr ⟨h1, ?_⟩
      rw [h1] at h
      omega
    · exfalso
      have h2 : (b.1 + 1) * (N : Int) ≤ a.1 * N := Int.mul_le_mul_of_nonneg_right (by omega) (by omega)
      rw [Int.add_mul, Int.one_mul] at h2
      omega
  · rintro (h1 | ⟨h1, h2⟩)
    · have h2 : (a.1 + 1) * (N : Int) ≤ b.1 * N := Int.mul_le_mul_of_nonneg_right (by omega) (by omega)
      rw [Int.add_mul, Int.one_mul] at h2
      omega
    · rw [h1]; omega
theorem key_inj {a b : DMk} (h : key a = key b) : a = b := by
  have h1 := mt (key_lt_iff a b).2 (by omega)
  have h2 := mt (key_lt_iff b a).2 (by omega)
  simp only [not_or, not_and] at h1 h2
  have h3 : a.1 = b.1 := by omega
  exact Prod.ext h3 (valH_inj (by have := h1.2 h3; have := h2.2 h3.symm; omega))
theorem cmpI_neg (a b : Int) : cmpI a b < 0 ↔ a < b := by
  unfold cmpI
  split
  · simp_all
  · split <;> simp_all
def ltM (a b : DMk) : Bool := decide (key a < key b)
def Asc (l : List DMk) : Prop := l.Pairwise fun a b => key a < key b
def ahead (l : List DMk) (m : DMk) : Nat := l.findIdx fun x => !ltM x m
def insM (l : List DMk) (m : DMk) : List DMk := if l[ahead l m]? = some m then l else l.take (ahead l m) ++ m :: l.drop (ahead l m)
def freshM (l : List DMk) (m : DMk) : Bool := !decide (l[ahead l m]? = some m)
def lineM (l : List DMk) : List DMk := l.foldl insM []
theorem ahead_le (l : List DMk) (m : DMk) : ahead l m ≤ l.length := List.findIdx_le_length
theorem insM_len (l : List DMk) (m : DMk) : (insM l m).length ≤ l.length + 1 := by
  have := ahead_le l m
  unfold insM
  split
  · omega
  · simp; omega
theorem ahead_lt {l : List DMk} {m : DMk} {i : Nat} (h : i < ahead l m) (hi : i < l.length) : key l[i] < key m := by
  have := List.not_of_lt_findIdx h
  simpa [ltM] using this
theorem ahead_ge {l : List DMk} {m : DMk} (h : ahead l m < l.length) : ¬ key l[ahead l m] < key m := by
  have := List.findIdx_getElem (w := h)
  intro hk
  have h2 : ltM (l[List.findIdx (fun x => !ltM x m) l]'h) m = true := decide_eq_true hk
  simp [h2] at this
theorem mem_insM {l : List DMk} {m x : DMk} : x ∈ insM l m ↔ x ∈ l ∨ x = m := by
  unfold insM
  split
  · rename_i h
    have := List.mem_of_getElem? h
    constructor
    · exact .inl
    · rintro (h | rfl)
      · exact h
      · exact this
  · rw [List.mem_append, List.mem_cons]
    conv => rhs; rw [← List.take_append_drop (ahead l m) l, List.mem_append]
    constructor
    · rintro (h | h | h)
      · exact .inl (.inl h)
      · exact .inr h
      · exact .inl (.inr h)
    · rintro ((h | h) | h)
      · exact .inl h
      · exact .inr (.inr h)
      · exact .inr (.inl h)
theorem asc_insM {l : List DMk} (h : Asc l) (m : DMk) : Asc (insM l m) := by
  unfold insM
  split
  · exact h
  · rename_i hn
    have hlt : ∀ a ∈ l.take (ahead l m), key a < key m := fun a ha => by
      obtain ⟨i, hi, rfl⟩ := List.getElem_of_mem ha
      have hi' : i < ahead l m ∧ i < l.length := by simp at hi; omega
      rw [List.getElem_take]
      exact ahead_lt hi'.1 hi'.2
    have hgt : ∀ b ∈ l.drop (ahead l m), key m < key b := fun b hb => by
      obtain ⟨i, hi, rfl⟩ := List.getElem_of_mem hb
      rw [List.length_drop] at hi
      have h0 : ahead l m < l.length := by omega
      have h1 : key m < key l[ahead l m] := by
        have h2 := ahead_ge h0
        rcases Int.lt_trichotomy (key l[ahead l m]) (key m) with h3 | h3 | h3
        · exact absurd h3 h2
        · exact absurd (by rw [List.getElem?_eq_getElem h0, key_inj h3]) hn
        · exact h3
      rw [List.getElem_drop]
      rcases Nat.eq_zero_or_pos i with rfl | hi0
      · simpa using h1
      · have := (List.pairwise_iff_getElem.1 h) (ahead l m) (ahead l m + i) h0 (by omega) (by omega)
        omega
    refine List.pairwise_append.2 ⟨h.sublist (List.take_sublist _ _), List.pairwise_cons.2 ⟨hgt, h.sublist (List.drop_sublist _ _)⟩, fun a ha b hb => ?_⟩
    rcases List.mem_cons.1 hb with rfl | hb
    · exact hlt a ha
    · have := hlt a ha; have := hgt b hb; omega
theorem foldl_insM : ∀ (l acc : List DMk), Asc acc → Asc (l.foldl insM acc) ∧ ∀ m, m ∈ l.foldl insM acc ↔ m ∈ acc ∨ m ∈ l
  | [], acc, h => ⟨h, fun m => by simp⟩
  | x :: l, acc, h => by
    obtain ⟨h1, h2⟩ := foldl_insM l (insM acc x) (asc_insM h x)
    refine ⟨h1, fun m => ?_⟩
    rw [List.foldl_cons, h2, mem_insM, List.mem_cons]
    constructor
    · rintro ((h | h) | h)
      · exact .inl h
      · exact .inr (.inl h)
      · exact .inr (.inr h)
    · rintro (h | h | h)
      · exact .inl (.inl h)
      · exact .inl (.inr h)
      · exact .inr h
theorem asc_lineM (l : List DMk) : Asc (lineM l) := (foldl_insM l [] List.Pairwise.nil).1
theorem mem_lineM (l : List DMk) (m : DMk) : m ∈ lineM l ↔ m ∈ l := by
  have := (foldl_insM l [] List.Pairwise.nil).2 m
  simpa [lineM] using this
theorem foldl_insM_len : ∀ (l acc : List DMk), (l.foldl insM acc).length ≤ acc.length + l.length
  | [], acc => by simp
  | x :: l, acc => by
    have h1 := foldl_insM_len l (insM acc x)
    have h2 := insM_len acc x
    rw [List.foldl_cons, List.length_cons]
    omega
theorem lineM_len (l : List DMk) : (lineM l).length ≤ l.length := by have := foldl_insM_len l []; rwa [List.length_nil, Nat.zero_add] at this
theorem rev_ind {α : Type} {p : List α → Prop} (h0 : p []) (h1 : ∀ l x, p l → p (l ++ [x])) (l : List α) : p l := by
  have key : ∀ r : List α, p r.reverse := fun r => by
    induction r with
    | nil => exact h0
    | cons x r ih => rw [List.reverse_cons]; exact h1 _ _ ih
  simpa using key l.reverse
def pack1 (acc : List DMk) (x : DMk) : List DMk := if acc.getLast? = some x then acc else acc ++ [x]
def packM (l : List DMk) : List DMk := l.foldl pack1 []
end Go.Proofs.Ytonncfminojejaa
