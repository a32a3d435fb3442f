/- How the arguments of a law read: what the walk is told of them; the law's statement out of its walk. Conditions: none. -/
import Derived.Test.YtpnjkebjdclkfaaMem
import Derived.ProofKit
import Derived.OpenShut
import Derived.ShutString
import Derived.ChangeOld
import Derived.SizedLaws
import Derived.Deep.Slices
import Derived.Lib.SmallJoins
namespace Go.Proofs.Ytpnjkebjdclkfaa
open Go.ChangeShapes Go.WideShapes Go.ChangeAt Go.RowKit
open Go.ChangeMaps (open_string shut_string)

/-- What was read takes no more memory than there is. -/
def Sized {H : Type} (P : Program) (t : TypeId) (d : DataW H) : Prop := ∀ n ∈ d.weights P t, n ≤ reachBytes

section
variable {H : Type} {enc : TypeId × Value → H} {P : Program} {w : World}

theorem sized_of_each {ts : List TypeId} {ds : List (DataW H)} (h : (DataW.weightsEach P ts ds).all (· ≤ reachBytes) = true) {j : Nat} {t : TypeId} {d : DataW H} (ht : ts[j]? = some t) (hd : ds[j]? = some d) : Sized P t d := fun n hn => by
  have := List.all_eq_true.1 h _ (DataW.weights_mem_each ht hd n hn)
  simpa using this
theorem sized_each {fs : Array Field} {t : TypeId} {parts : List (DataW H)} (ht : P.underlying t = some (.struct fs)) (h : Sized P t (.agg parts)) {j : Nat} {f : Field} {d : DataW H} (hf : fs[j]? = some f) (hd : parts[j]? = some d) : Sized P f.type d := fun n hn => by
  refine h n ?_
  simp only [DataW.weights, ht]
  exact DataW.weights_mem_each (by simpa using congrArg (Option.map (·.type)) hf) hd n hn
theorem weights_mem_all {e : TypeId} {l : List (DataW H)} {d : DataW H} (hd : d ∈ l) {n : Nat} (hn : n ∈ d.weights P e) : n ∈ DataW.weightsAll P e l := by
  induction l with
  | nil => cases hd
  | cons x l ih =>
    simp only [DataW.weightsAll, List.mem_append]
    rcases List.mem_cons.1 hd with rfl | h
    · exact .inl hn
    · exact .inr (ih h)
theorem sized_elem {t e : TypeId} {elems spare : List (DataW H)} (ht : P.underlying t = some (.slice e)) (h : Sized P t (.slice elems spare)) {d : DataW H} (hd : d ∈ elems) : Sized P e d := fun n hn => by
  refine h n ?_
  simp only [DataW.weights, ht, List.mem_cons, List.mem_append]
  exact .inr (.inl (weights_mem_all hd hn))
theorem sized_len {t e : TypeId} {elems spare : List (DataW H)} (ht : P.underlying t = some (.slice e)) (h : Sized P t (.slice elems spare)) : (elems.length + spare.length) * P.bytesOf e ≤ 140737488351232 := by
  refine h _ ?_
  simp only [DataW.weights, ht, List.mem_cons, true_or]

/-- A slice of bytes. -/
theorem open_bytes {t e : TypeId} {fuel : Nat} {cs : List Value} {x : DataW H × List MemPlace} (ht : P.underlying t = some (.slice e)) (he : P.underlying e = some (.int .u8)) (hc : P.cellsOf e = 1) (hby : P.bytesOf e = 1)
    (h : DataW.trod enc P w 0 (fun _ => true) true fuel t cs = some x) (hs : Sized P t x.1) :
    ∃ (A : Option Addr) (c : Nat) (l : List UInt8), cs = [.slice A l.length c] ∧ Reads w w.heap.size 1 A l.length (l.map bv) ∧ l.length ≤ c ∧ c ≤ 140737488351232 := by
  rcases open_ints ht he hc h with ⟨rfl, rfl⟩ | ⟨a, len, cap, zs, rfl, _, hl, hm, hz, rfl, hcell, hwz⟩
  · exact ⟨none, 0, [], rfl, Reads.none_, Nat.le_refl _, by omega⟩
  · have hz' : zs.length = cap := by simpa using hz
    have hb := sized_len ht hs
    rw [hby] at hb
    simp only [lits, List.length_map, List.length_take, List.length_drop] at hb
    refine ⟨some a, cap, (zs.take len).map fun n => UInt8.ofNat n.toNat, ?_, ?_, ?_, by omega⟩
    · simp; omega
    · refine Reads.of_add (by simp) (fun h0 _ => ⟨a, rfl, ?_, fun j u hu => ?_⟩) (by omega)
      · have h1 : 0 < zs.length := by simp at h0; omega
        have h2 := World.block_lt_of_cell? w _ (hcell 0 h1)
        rwa [block_of_add] at h2
      · simp only [List.map_map, List.getElem?_map, List.getElem?_take] at hu
        split at hu
        · rename_i hj
          have hj2 : j < zs.length := by omega
          rw [List.getElem?_eq_getElem hj2] at hu
          simp only [Option.map_some, Option.some.injEq, Function.comp] at hu
          rw [hcell j hj2, ← hu]
          simp only [List.getD, List.getElem?_eq_getElem hj2, Option.getD_some]
          have hw := bounds_u8 (hwz _ (List.getElem_mem hj2))
          refine congrArg some (int_eq ?_)
          simp
          omega
        · cases hu
    · simp; omega

/-- A slice's address is a plain one, where it has an element. -/
theorem plain_of_cells {a : Addr} {size : Nat} {cs : List Value} (hs : 0 < size) (h : w.cells? 0 (a.add (0 * size)) size = some cs) : ∃ b o, a = ⟨b, o, none⟩ ∧ b < w.heap.size := by
  obtain ⟨_, hlen, hcell⟩ := World.cells?_some h
  have h0 := hcell 0 hs
  rw [List.getElem?_eq_getElem (by omega)] at h0
  obtain ⟨b, o, sp⟩ := a
  have : sp = none := by simpa [Addr.add] using World.cell?_spot h0
  subst this
  exact ⟨b, o, rfl, by have := World.block_lt_of_cell? w _ h0; simpa [Addr.add] using this⟩
theorem cells_at {b o k size : Nat} {cs : List Value} (h : w.cells? 0 ((⟨b, o, none⟩ : Addr).add k) size = some cs) : cs.length = size ∧ ∀ j u, cs[j]? = some u → w.cell? ⟨b, o + k + j, none⟩ = some u := by
  obtain ⟨_, hlen, hcell⟩ := World.cells?_some h
  refine ⟨hlen, fun j u hu => ?_⟩
  have hj : j < size := by
    have := (List.getElem?_eq_some_iff.1 hu).1
    omega
  have := hcell j hj
  rw [Addr.add_lit, Addr.add_lit] at this
  rw [this, hu]

/-- The arguments read on as they read. -/
theorem trodAll_below (hl : laidOutB P = true) {W W' : World} (hb : Below W.heap.size W W') : ∀ {ts : List TypeId} {vs : List Value} {ds : List (DataW H)} {ps : List MemPlace},
    (ts.all fun t => P.readableRec t && decide (t < P.types.size)) = true → DataW.TrodAll enc P W 0 (fun _ => true) true ts vs ds ps → DataW.TrodAll enc P W' 0 (fun b => decide (b < W.heap.size)) true ts vs ds ps
  | [], [], [], _, _, h => h
  | t :: ts, v :: vs, d :: ds, ps, hr, h => by
    obtain ⟨p, q, h1, h2, rfl⟩ := h
    simp only [List.all_cons, Bool.and_eq_true, decide_eq_true_eq] at hr
    refine ⟨p, q, Below.trod hl hr.1.1 hr.1.2 h1 hb ?_, trodAll_below hl hb hr.2 h2, rfl⟩
    obtain ⟨m, hm⟩ := h1
    exact DataW.trod_lt m _ _ _ hm
  | [], _ :: _, _, _, _, h => h.elim
  | [], [], _ :: _, _, _, h => h.elim
  | _ :: _, [], _, _, _, h => h.elim
  | _ :: _, _ :: _, [], _, _, h => h.elim
end
end Go.Proofs.Ytpnjkebjdclkfaa
