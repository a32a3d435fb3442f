/- Texts of a proof, part 1. Conditions: none. -/
import Derived.WalkKit
import Derived.WalkSmall
import Derived.WalkSpells
import Derived.WalkLawsBesides
import Derived.Maps.AppendAt
import Derived.Deep.AppendLies
import Derived.Deep.Draws
import Derived.Deep.QuietTactic
import Derived.BigQuiet
import Derived.Deep.DeepFit
import Derived.Deep.RegionWith
import Derived.Deep.RegionHeld3
import Derived.Deep.DrawnRows
import Derived.StillTailTactics
import Derived.Deep.DeepMust
import Derived.StillTail
import Derived.Deep.RegionHeld
import Derived.ProofKit
import Derived.OpenShut
import Derived.ShutString
import Derived.ChangeOld
import Derived.SizedLaws
import Derived.Deep.Slices
import Derived.Lib.SmallJoins
import Derived.WideKeyArr2
import Derived.Lib.Strings
import Derived.Deep.MidRow
import Derived.Laws.NewBlocks
import Derived.Deep.DeepCutAuto
import Derived.Sort.Walk0
import Derived.Test.YtonncfminojejaaGreatDoorProg
import Derived.Lib.OthersKept
import Derived.Lib.TrimU
import Derived.Deep.LoopGhost
import Derived.DeepKeys
import Derived.Deep.Strs
import Derived.Deep.AppendSrc
import Derived.Deep.Upon
import Derived.Laws.CopyRow
import Derived.Laws.CopyOwn
import Derived.Lib.SlBytesConst
import Derived.Deep.Quiet
import Derived.KernelRfl
import Derived.ChangeSame
import Derived.ChangeVars
import Derived.JoinedOf
import Derived.LaidLaws
import Derived.LaidHandle
import Derived.Stop.Joined
import Derived.Laws.Externs
import Derived.Stop.BytesEq
import Derived.Shelf.SlSortCmp.Insertion
import Derived.Shelf.SlSortCmp.WholeK
import Derived.Lib.QuietBelow
import Derived.Ground.SlsfProg
import Derived.LaidEql
import Derived.Stop.Asserts
import Derived.RowKitTokens
import Derived.RangeFuncLeaves
import Derived.RangeFuncRecord
import Derived.RangeFuncSeq
import Derived.OrdersIn
import Derived.TacticsIn
import Derived.Shelf.Abstract
import Derived.OwnWalkIn
import Derived.TacticsInMore
import Derived.LoopNIn
import Derived.LoopIn
import Derived.BigRegionIn
import Derived.SevenTiedAt
import Derived.RowKit
set_option linter.unusedVariables false
set_option linter.unusedSimpArgs false
namespace Go.Proofs.YtonncfminojejaaGreatDoor
open Go.RowKit

abbrev bv (b : UInt8) : Value := .int .u8 (b.toNat : Int)

def Reads (w : World) (B size : Nat) (A : Option Addr) (n : Nat) (xs : List Value) : Prop :=
  xs.length = n * size ∧ (0 < n → ∃ b o, A = some ⟨b, o, none⟩ ∧ b < B ∧ ∀ j u, xs[j]? = some u → w.cell? ⟨b, o + j, none⟩ = some u)

section
variable {w w' : World} {B B' size n : Nat} {A : Option Addr} {xs : List Value}
end
section
variable {w w' : World} {g : Nat} {t : TypeId} {cs : Array Value}
end

section
variable {P : Program} (w : World)

end

theorem run_string_of_bytes {P : Program} {w : World} {B n c : Nat} {A : Option Addr} {l : List UInt8} (src dst e : TypeId) (hs : P.underlying src = some (.slice e)) (he : P.underlying e = some (.int .u8)) (hd : P.underlying dst = some .string)
    (hr : Reads w B 1 A n (l.map bv)) : (convert src dst (.slice A n c)).run P w = .ok (.string ⟨l.toArray⟩) w := by
  have hn : l.length = n := by have := hr.1; simpa using this
  subst hn
  rcases Nat.eq_zero_or_pos l.length with h0 | h0
  · have : l = [] := List.eq_nil_of_length_eq_zero h0
    subst this
    rcases A with _ | ad
    · exact run_convert_bytes_nil w src e hs he 0 c dst hd
    · exact run_convert_bytes_back w src dst e ad c [] hs he hd fun j hj => absurd hj (by simp)
  · obtain ⟨b, o, rfl, _, hc⟩ := hr.2 h0
    exact run_convert_bytes_back w src dst e _ c l hs he hd fun j hj => by rw [Addr.add_lit]; exact hc j _ (by simp [List.getElem?_eq_getElem hj])
theorem int_eq {k : IntKind} {a b : Int} (h : a = b) : Value.int k a = .int k b := by rw [h]
def Gives (v : Value) (w : World) (e : Ending) (w' : World) : Prop := e = .returned v ∧ Below w.heap.size w w'
end Go.Proofs.YtonncfminojejaaGreatDoor

namespace Go.Proofs.YtonncfminojejaaGreatDoor

section
variable {P : Program} {md : Region.Mode}

theorem wpAny_more {ops : Array Oper} {Q : Exit → Act → World → Prop} : ∀ (f : Nat) (listed : Array Bool) (a : Act) (w : World), wpAny P md ops Q f listed a w → wpAny P md ops Q (f + 1) listed a w
  | 0, _, _, _, h => ⟨fun _ => h.2, fun i hi => by rw [h.1] at hi; cases hi⟩
  | f + 1, _, _, _, h => ⟨h.1, fun i hi => wpOp_mono (fun a' w' h' => wpAny_more f _ a' w' h') (h.2 i hi)⟩
theorem wpAny_moreN {ops : Array Oper} {Q : Exit → Act → World → Prop} {f : Nat} {listed : Array Bool} {a : Act} {w : World} (h : wpAny P md ops Q f listed a w) : ∀ k, wpAny P md ops Q (k + f) listed a w
  | 0 => by rw [Nat.zero_add]; exact h
  | k + 1 => by rw [show k + 1 + f = (k + f) + 1 by omega]; exact wpAny_more _ _ _ _ (wpAny_moreN h k)

def backB (l : List Oper) (n : Nat) : Bool :=
  (List.range n).all fun j => match l[j]? with
    | some o => (o.after.all fun e => decide (e.on < j)) && (match o.guard with | some (g, _) => decide (g < n) | none => true)
    | none => true
def heldTailB (l : List Oper) (n : Nat) : Bool :=
  decide (n < l.length) && Region.sinkB .any l.toArray n && Region.chainB .any l.toArray n && backB l n && Region.seqB .any l.toArray (l.length - n) n (Array.replicate n true ++ Array.replicate (l.length - n) false)

theorem getD_app_lt {L : Array Bool} {g j n : Nat} (d : Bool) (hL : L.size = n) (hj : j < n) : (L ++ Array.replicate g false).getD j d = L.getD j d := by
  subst hL
  simp [hj, Nat.lt_of_lt_of_le hj (Nat.le_add_right _ _)]
theorem take_get {l : List Oper} {n j : Nat} (hj : j < n) : (l.take n).toArray[j]? = l.toArray[j]? := by
  simp [hj]

theorem backB_spec {l : List Oper} {n j : Nat} {o : Oper} (h : backB l n = true) (hj : j < n) (ho : l.toArray[j]? = some o) : (∀ e ∈ o.after, e.on < j) ∧ ∀ g b, o.guard = some (g, b) → g < n := by
  have h1 := List.all_eq_true.1 h j (List.mem_range.2 hj)
  have ho' : l[j]? = some o := by simpa using ho
  simp only [ho', Bool.and_eq_true] at h1
  refine ⟨fun e he => ?_, fun g b hg => ?_⟩
  · have := Array.all_eq_true_iff_forall_mem.1 h1.1 e he
    simpa using this
  · have := h1.2
    rw [hg] at this
    simpa using this

theorem ready_head {l : List Oper} {n g j : Nat} {L : Array Bool} (hb : backB l n = true) (hL : L.size = n) (hj : j < n) : j ∈ Region.ready md l.toArray (L ++ Array.replicate g false) ↔ j ∈ Region.ready md (l.take n).toArray L := by
  rw [mem_ready, mem_ready, getD_app_lt true hL hj, take_get hj]
  constructor
  · rintro ⟨h0, o, ho, hall⟩
    refine ⟨h0, o, ho, fun e he hbd => ?_⟩
    have hlt := (backB_spec hb hj ho).1 e he
    have := hall e he hbd
    rwa [getD_app_lt false hL (by omega)] at this
  · rintro ⟨h0, o, ho, hall⟩
    refine ⟨h0, o, ho, fun e he hbd => ?_⟩
    have hlt := (backB_spec hb hj ho).1 e he
    rw [getD_app_lt false hL (by omega)]
    exact hall e he hbd

theorem head_done {l : List Oper} {n : Nat} {L : Array Bool} (hn : n < l.length) (hb : backB l n = true) (hL : L.size = n) (hr : Region.ready md (l.take n).toArray L = []) : ∀ i, i < n → L.getD i false = true := by
  intro i
  induction i using Nat.strongRecOn with
  | _ i ih =>
    intro hi
    cases h : L.getD i false with
    | true => rfl
    | false =>
      exfalso
      have hil : i < l.length := by omega
      have ho : l.toArray[i]? = some l[i] := by simp [hil]
      have : i ∈ Region.ready md (l.take n).toArray L := mem_ready.2 ⟨getD_in (by omega) h, l[i], by rw [take_get hi]; exact ho, fun e he _ => ih e.on ((backB_spec hb hi ho).1 e he) (by have := (backB_spec hb hi ho).1 e he; omega)⟩
      rw [hr] at this
      cases this

theorem wpOp_head {l : List Oper} {n i : Nat} {Q : Exit → Act → World → Prop} {T : Act → World → Prop} {K : Act → World → Prop} {a : Act} {w : World} (hb : backB l n = true) (hi : i < n) (hil : i < l.length)
    (h : wpOp P (l.take n).toArray (Exit.then T Q) i K a w) : wpOp P l.toArray Q i K a w := by
  have ho : l.toArray[i]? = some l[i] := by simp [hil]
  have hg := (backB_spec hb hi ho).2
  have hy : Region.wanted l[i] (yielded (l.take n).toArray a.tmps) = Region.wanted l[i] (yielded l.toArray a.tmps) := by
    unfold Region.wanted
    cases hgd : l[i].guard with
    | none => rfl
    | some gb =>
      obtain ⟨g, b⟩ := gb
      have hlt := hg g b hgd
      simp only [yielded, take_get hlt]
  unfold wpOp at h ⊢
  rw [take_get hi] at h
  simp only [ho] at h ⊢
  rw [hy] at h
  by_cases hw : Region.wanted l[i] (yielded l.toArray a.tmps) = true
  · rw [if_pos hw] at h ⊢
    rcases h with h | ⟨h1, h2⟩
    · refine .inl ?_
      unfold Oper.wp at h ⊢
      generalize (execOp a.eval l[i]).run P w = r at *
      cases r with
      | ok x w' =>
        cases x <;> simp only [Oper.upon] at h ⊢ <;> first
          | exact h
          | exact Calls.mono h (fun e w'' he => by cases e <;> exact he)
      | halt x w' => cases x <;> simp only [Oper.upon] at h ⊢ <;> exact h
    · obtain ⟨a', w', h2⟩ := h2
      exact .inr ⟨h1, a', w', h2⟩
  · rw [if_neg hw] at h ⊢
    exact h

theorem head_inv_set {l : List Oper} {n i g : Nat} {L : Array Bool} (hL : L.size = n) (hi : i < n) : (L ++ Array.replicate g false).setIfInBounds i true = L.setIfInBounds i true ++ Array.replicate g false := by
  subst hL
  rw [Array.setIfInBounds_append, if_pos hi]

theorem wpAny_tail {l : List Oper} {n : Nat} {Q : Exit → Act → World → Prop} (hn : n < l.length) (hs : Region.sinkB md l.toArray n = true) (hc : Region.chainB md l.toArray n = true) (hb : backB l n = true)
    (hq : Region.seqB md l.toArray (l.length - n) n (Array.replicate n true ++ Array.replicate (l.length - n) false) = true) :
    ∀ (f : Nat) (L : Array Bool) (a : Act) (w : World), HeadInv md l.toArray n (L ++ Array.replicate (l.length - n) false) → L.size = n →
      wpAny P md (l.take n).toArray (Exit.then (fun a w => wpList P l.toArray Q (l.drop n) a w) Q) f L a w → wpAny P md l.toArray Q (f + (l.length - n)) (L ++ Array.replicate (l.length - n) false) a w := by
  have hend : ∀ (L : Array Bool) (a : Act) (w : World), L.size = n → Region.ready md (l.take n).toArray L = [] → wpList P l.toArray Q (l.drop n) a w → wpAny P md l.toArray Q (l.length - n) (L ++ Array.replicate (l.length - n) false) a w := by
    intro L a w hL hr h
    have hd := head_done hn hb hL hr
    have hLe : L = Array.replicate n true := by
      apply Array.ext
      · simp [hL]
      · intro j h1 h2
        have := hd j (by omega)
        simpa [h1] using this
    have := wpAny_of_seq (md := md) (Q' := Q) (P := P) (ops := l.toArray) (l.drop n) n (L ++ Array.replicate (l.length - n) false) a w (fun j => by simp [List.getElem?_drop]) (by rw [hLe, List.length_drop]; exact hq) h
    rwa [List.length_drop] at this
  intro f
  induction f with
  | zero =>
    intro L a w inv hL h
    rw [Nat.zero_add]
    exact hend L a w hL h.1 h.2
  | succ f ih =>
    intro L a w inv hL h
    by_cases hr : Region.ready md (l.take n).toArray L = []
    · exact wpAny_moreN (hend L a w hL hr (h.1 hr)) (f + 1)
    · obtain ⟨i0, hi0⟩ : ∃ i, i ∈ Region.ready md (l.take n).toArray L := by
        cases hx : Region.ready md (l.take n).toArray L with
        | nil => exact absurd hx hr
        | cons x xs => exact ⟨x, by simp⟩
      have hi0n : i0 < n := by
        obtain ⟨_, o, ho, _⟩ := mem_ready.1 hi0
        have := (Array.getElem?_eq_some_iff.1 ho).1
        simp at this
        omega
      have hi0f := (ready_head (g := l.length - n) hb hL hi0n).2 hi0
      have hun := (mem_ready.1 hi0f).1
      have hlt : ∀ j ∈ Region.ready md l.toArray (L ++ Array.replicate (l.length - n) false), j < n := by
        intro j hj
        rcases Nat.lt_or_ge j n with h' | h'
        · exact h'
        · exact absurd hj (tail_waits hs hc (by simpa using hn) inv _ i0 rfl hi0n hun j h')
      rw [show f + 1 + (l.length - n) = (f + (l.length - n)) + 1 by omega]
      refine ⟨fun h0 => (by rw [h0] at hi0f; cases hi0f), fun i hi => ?_⟩
      have hin := hlt i hi
      refine wpOp_head hb hin (by omega) (wpOp_mono (fun a' w' h' => ?_) (h.2 i ((ready_head hb hL hin).1 hi)))
      rw [head_inv_set (l := l) hL hin]
      refine ih _ a' w' ?_ (by simp [hL]) h'
      rw [← head_inv_set (l := l) hL hin]
      exact inv.set hi hin

theorem wp_region_any_tail {l : List Oper} (n : Nat) {id : Nat} {Q : Exit → Act → World → Prop} {a : Act} {w : World} (hm : P.follows .mixedOrders = true) (hB : heldTailB l n = true)
    (h : wpAny P .any (l.take n).toArray (Exit.then (fun a w => wpList P l.toArray Q (l.drop n) a w) Q) (l.take n).toArray.size (Array.replicate (l.take n).toArray.size false) a w.drew) : (Code.region id l.toArray true).wp P Q a w := by
  simp only [heldTailB, Bool.and_eq_true, decide_eq_true_eq] at hB
  obtain ⟨⟨⟨⟨hn, hs⟩, hc⟩, hb⟩, hq⟩ := hB
  have htl : (l.take n).toArray.size = n := by simp; omega
  rw [htl] at h
  refine wp_region_any hm ?_
  have e : Array.replicate l.toArray.size false = Array.replicate n false ++ Array.replicate (l.length - n) false := by
    rw [Array.replicate_append_replicate]; congr 1; simp; omega
  have inv0 : HeadInv .any l.toArray n (Array.replicate n false ++ Array.replicate (l.length - n) false) := by
    rw [← e]
    exact ⟨by simp, fun j oj _ hl => (by rw [getD_replicate_false] at hl; cases hl), fun t _ ht => getD_in (by simpa using ht) (getD_replicate_false _ _)⟩
  have := wpAny_tail hn hs hc hb hq n (Array.replicate n false) a w.drew inv0 (by simp) h
  rw [e]
  rw [show n + (l.length - n) = l.toArray.size by simp; omega] at this
  exact this

def nth : List Oper → Nat → Option Oper
  | [], _ => none
  | o :: _, 0 => some o
  | _ :: l, n + 1 => nth l n
theorem nth_eq : ∀ (l : List Oper) (i : Nat), nth l i = l[i]?
  | [], i => by simp [nth]
  | o :: _, 0 => by simp [nth]
  | _ :: l, n + 1 => by simp [nth, nth_eq l n]

section
variable {l : List Oper} {Q : Exit → Act → World → Prop} {S : World → Prop} {fuel i : Nat} {oi : Oper} {listed : Array Bool} {a : Act} {w : World}
end
end
end Go.Proofs.YtonncfminojejaaGreatDoor

namespace Go.Proofs.YtonncfminojejaaGreatDoor
open Go.ChangeShapes Go.WideShapes Go.ChangeAt Go.RowKit
open Go.ChangeMaps (open_string shut_string)

def Sized {H : Type} (P : Program) (t : TypeId) (d : DataW H) : Prop := ∀ n ∈ d.weights P t, n ≤ reachBytes

section
variable {H : Type} {enc : TypeId × Value → H} {P : Program} {w : World}

theorem sized_of_each {ts : List TypeId} {ds : List (DataW H)} (h : (DataW.weightsEach P ts ds).all (· ≤ reachBytes) = true) {j : Nat} {t : TypeId} {d : DataW H} (ht : ts[j]? = some t) (hd : ds[j]? = some d) : Sized P t d := fun n hn => by
  have := List.all_eq_true.1 h _ (DataW.weights_mem_each ht hd n hn)
  simpa using this
theorem sized_each {fs : Array Field} {t : TypeId} {parts : List (DataW H)} (ht : P.underlying t = some (.struct fs)) (h : Sized P t (.agg parts)) {j : Nat} {f : Field} {d : DataW H} (hf : fs[j]? = some f) (hd : parts[j]? = some d) : Sized P f.type d := fun n hn => by
  refine h n ?_
  simp only [DataW.weights, ht]
  exact DataW.weights_mem_each (by simpa using congrArg (Option.map (·.type)) hf) hd n hn
theorem weights_mem_all {e : TypeId} {l : List (DataW H)} {d : DataW H} (hd : d ∈ l) {n : Nat} (hn : n ∈ d.weights P e) : n ∈ DataW.weightsAll P e l := by
  induction l with
  | nil => cases hd
  | cons x l ih =>
    simp only [DataW.weightsAll, List.mem_append]
    rcases List.mem_cons.1 hd with rfl | h
    · exact .inl hn
    · exact .inr (ih h)
theorem sized_elem {t e : TypeId} {elems spare : List (DataW H)} (ht : P.underlying t = some (.slice e)) (h : Sized P t (.slice elems spare)) {d : DataW H} (hd : d ∈ elems) : Sized P e d := fun n hn => by
  refine h n ?_
  simp only [DataW.weights, ht, List.mem_cons, List.mem_append]
  exact .inr (.inl (weights_mem_all hd hn))
theorem sized_len {t e : TypeId} {elems spare : List (DataW H)} (ht : P.underlying t = some (.slice e)) (h : Sized P t (.slice elems spare)) : (elems.length + spare.length) * P.bytesOf e ≤ 140737488351232 := by
  refine h _ ?_
  simp only [DataW.weights, ht, List.mem_cons, true_or]

theorem plain_of_cells {a : Addr} {size : Nat} {cs : List Value} (hs : 0 < size) (h : w.cells? 0 (a.add (0 * size)) size = some cs) : ∃ b o, a = ⟨b, o, none⟩ ∧ b < w.heap.size := by
  obtain ⟨_, hlen, hcell⟩ := World.cells?_some h
  have h0 := hcell 0 hs
  rw [List.getElem?_eq_getElem (by omega)] at h0
  obtain ⟨b, o, sp⟩ := a
  have : sp = none := by simpa [Addr.add] using World.cell?_spot h0
  subst this
  exact ⟨b, o, rfl, by have := World.block_lt_of_cell? w _ h0; simpa [Addr.add] using this⟩
theorem cells_at {b o k size : Nat} {cs : List Value} (h : w.cells? 0 ((⟨b, o, none⟩ : Addr).add k) size = some cs) : cs.length = size ∧ ∀ j u, cs[j]? = some u → w.cell? ⟨b, o + k + j, none⟩ = some u := by
  obtain ⟨_, hlen, hcell⟩ := World.cells?_some h
  refine ⟨hlen, fun j u hu => ?_⟩
  have hj : j < size := by
    have := (List.getElem?_eq_some_iff.1 hu).1
    omega
  have := hcell j hj
  rw [Addr.add_lit, Addr.add_lit] at this
  rw [this, hu]

theorem trodAll_below (hl : laidOutB P = true) {W W' : World} (hb : Below W.heap.size W W') : ∀ {ts : List TypeId} {vs : List Value} {ds : List (DataW H)} {ps : List MemPlace},
    (ts.all fun t => P.readableRec t && decide (t < P.types.size)) = true → DataW.TrodAll enc P W 0 (fun _ => true) true ts vs ds ps → DataW.TrodAll enc P W' 0 (fun b => decide (b < W.heap.size)) true ts vs ds ps
  | [], [], [], _, _, h => h
  | t :: ts, v :: vs, d :: ds, ps, hr, h => by
    obtain ⟨p, q, h1, h2, rfl⟩ := h
    simp only [List.all_cons, Bool.and_eq_true, decide_eq_true_eq] at hr
    refine ⟨p, q, Below.trod hl hr.1.1 hr.1.2 h1 hb ?_, trodAll_below hl hb hr.2 h2, rfl⟩
    obtain ⟨m, hm⟩ := h1
    exact DataW.trod_lt m _ _ _ hm
  | [], _ :: _, _, _, _, h => h.elim
  | [], [], _ :: _, _, _, h => h.elim
  | _ :: _, [], _, _, _, h => h.elim
  | _ :: _, _ :: _, [], _, _, h => h.elim
end
end Go.Proofs.YtonncfminojejaaGreatDoor

namespace Go.Proofs.YtonncfminojejaaGreatDoor
open Go.ChangeShapes Go.WideShapes Go.ChangeAt Go.RowKit Go.Deep Go.Joins
section
variable {H : Type} {enc : TypeId × Value → H} {P : Program} {w : World}

def IsRows {α : Type} (B size : Nat) (R : Nat → Nat → α → Prop) (A : Option Addr) (l : List α) : Prop :=
  0 < l.length → ∃ b o, A = some ⟨b, o, none⟩ ∧ b < B ∧ ∀ (i : Nat) (d : α), l[i]? = some d → R b (o + i * size) d

theorem open_rows_trod {α : Type} {t e : TypeId} {size bytes : Nat} (ht : P.underlying t = some (.slice e)) (hc : P.cellsOf e = size) (hs0 : 0 < size) (hby : P.bytesOf e = bytes) (hb0 : 0 < bytes) (R : Nat → Nat → α → Prop)
    (elem : ∀ (fuel : Nat) (cs : List Value) (x : DataW H × List MemPlace) (b o : Nat), b < w.heap.size → DataW.trod enc P w 0 (fun _ => true) true fuel e cs = some x → Sized P e x.1 → cs.length = size → (∀ j u, cs[j]? = some u → w.cell? ⟨b, o + j, none⟩ = some u) → ∃ d, R b o d)
    {fuel : Nat} {cs : List Value} {x : DataW H × List MemPlace} (h : DataW.trod enc P w 0 (fun _ => true) true fuel t cs = some x) (hs : Sized P t x.1) :
    ∃ (A : Option Addr) (c : Nat) (l : List α), cs = [.slice A l.length c] ∧ l.length ≤ c ∧ IsRows w.heap.size size R A l ∧ c * bytes ≤ 140737488351232 := by
  rcases open_slice ht h with ⟨hcs, rfl⟩ | ⟨a, len, cap, m, n, D, Pl, hcs, _, hl, hm, hmm, rfl, hel⟩
  · exact ⟨none, 0, [], hcs, Nat.le_refl _, fun h => absurd h (by simp), by omega⟩
  · simp only [if_true] at hmm
    subst hmm
    have hb := sized_len ht hs
    rw [hby] at hb
    simp only [List.length_map, List.length_range] at hb
    rw [show len + (m - len) = m by omega] at hb
    rw [hc] at hel
    rcases Nat.eq_zero_or_pos len with h0 | h0
    · subst h0
      exact ⟨some a, m, [], hcs, Nat.zero_le _, fun h => absurd h (by simp), hb⟩
    obtain ⟨b, o, rfl, hbl⟩ : ∃ b o, a = ⟨b, o, none⟩ ∧ b < w.heap.size := by
      obtain ⟨cs', h1, _⟩ := hel 0 (by omega)
      exact plain_of_cells hs0 h1
    have key : ∀ i, i < len → ∃ y : α, R b (o + i * size) y := by
      intro i hi
      obtain ⟨cs', h1, h2⟩ := hel i (by omega)
      obtain ⟨hlen, hcell⟩ := cells_at h1
      exact elem _ _ _ b (o + i * size) hbl h2 (sized_elem ht hs (List.mem_map.2 ⟨i, by simpa using hi, rfl⟩)) hlen hcell
    haveI : Inhabited α := ⟨Classical.choose (key 0 h0)⟩
    obtain ⟨f, hf⟩ := choose_lt key
    have hlen : ((List.range len).map f).length = len := by simp
    refine ⟨some ⟨b, o, none⟩, m, (List.range len).map f, by rw [hlen]; exact hcs, by rw [hlen]; exact hl, fun _ => ⟨b, o, rfl, hbl, fun i d hd => ?_⟩, hb⟩
    have hi : i < len := by
      have := (List.getElem?_eq_some_iff.1 hd).1
      simpa using this
    simp [hi] at hd
    subst hd
    exact hf i hi

theorem open_u8array {t e : TypeId} {n fuel : Nat} {cs : List Value} {x : DataW H × List MemPlace} (ht : P.underlying t = some (.array n e)) (he : P.underlying e = some (.int .u8)) (hct : P.cellsOf t = n) (hce : P.cellsOf e = 1)
    (h : DataW.trod enc P w 0 (fun _ => true) true fuel t cs = some x) : ∃ l : List UInt8, l.length = n ∧ cs = l.map bv := by
  obtain ⟨xs, m, _, _, hlen, hxs, hel⟩ := DataW.trod_array ht h
  rw [hct] at hlen
  rw [hce] at hel
  refine ⟨(List.range n).map fun i => UInt8.ofNat (match cs[i]? with | some (Value.int _ z) => z.toNat | _ => 0), by simp, ?_⟩
  refine List.ext_getElem (by simp [hlen]) fun i h1 h2 => ?_
  have hi : i < n := by omega
  have h3 := hel i hi
  rw [Nat.mul_one, List.drop_eq_getElem_cons h1, List.take_succ_cons, List.take_zero, List.getElem?_eq_getElem (by omega)] at h3
  obtain ⟨z, hz, _, hw⟩ := DataW.trod_int he h3
  have hz' : cs[i] = .int .u8 z := by simpa using hz
  have hb := bounds_u8 hw
  rw [hz']
  simp only [List.getElem_map, List.getElem_range, List.getElem?_eq_getElem h1, hz']
  refine int_eq ?_
  simp
  omega
end
end Go.Proofs.YtonncfminojejaaGreatDoor

namespace Go.Proofs.YtonncfminojejaaGreatDoor
open Go.RowKit

abbrev Str := List UInt8
section
variable {w w' : World} {F G : Nat → Prop} {size n : Nat} {A : Option Addr} {xs : List Value}
end

/-! ### Schemas -/
inductive DSch where
  | mk (kind : Int) (words : List Str) (parts : List DSch)
namespace DSch
def kind : DSch → Int
  | mk k _ _ => k
def words : DSch → List Str
  | mk _ ws _ => ws
def parts : DSch → List DSch
  | mk _ _ ps => ps
end DSch

/-! ### Values -/
inductive DVal where
  | mk (kind n : Int) (s : Str) (names : List Str) (ids : List Nat) (parts : List DVal)
namespace DVal
def kind : DVal → Int
  | mk k _ _ _ _ _ => k
def n : DVal → Int
  | mk _ n _ _ _ _ => n
def s : DVal → Str
  | mk _ _ s _ _ _ => s
def names : DVal → List Str
  | mk _ _ _ l _ _ => l
def ids : DVal → List Nat
  | mk _ _ _ _ l _ => l
def parts : DVal → List DVal
  | mk _ _ _ _ _ ps => ps
end DVal

/-! ### Paths -/
end Go.Proofs.YtonncfminojejaaGreatDoor

namespace Go.Proofs.YtonncfminojejaaGreatDoor

def b8 (n : Nat) : UInt8 := UInt8.ofNat n
theorem b8_toNat (n : Nat) (h : n < 256) : (b8 n).toNat = n := by simp [b8]; omega

def numB (n : Nat) : List UInt8 := if n < 128 then [b8 n] else b8 (n % 128 + 128) :: numB (n / 128)
termination_by n
decreasing_by omega

theorem numB_lt (n : Nat) (h : n < 128) : numB n = [b8 n] := by rw [numB, if_pos h]
theorem numB_ge (n : Nat) (h : ¬ n < 128) : numB n = b8 (n % 128 + 128) :: numB (n / 128) := by rw [numB, if_neg h]
theorem numB_length (n : Nat) : ∀ k, n < 128 ^ (k + 1) → (numB n).length ≤ k + 1 := by
  intro k
  induction k generalizing n with
  | zero => intro h; rw [numB_lt n (by simpa using h)]; simp
  | succ k ih =>
    intro h
    by_cases h1 : n < 128
    · rw [numB_lt n h1]; simp
    · rw [numB_ge n h1]
      have := ih (n / 128) (by rw [Nat.pow_succ] at h; exact Nat.div_lt_of_lt_mul (by omega))
      simp only [List.length_cons]; omega
theorem numB_length_le (n : Nat) (h : n < 18446744073709551616) : (numB n).length ≤ 10 := numB_length n 9 (by simp; omega)
theorem numB_pos (n : Nat) : 0 < (numB n).length := by
  by_cases h : n < 128
  · rw [numB_lt n h]; simp
  · rw [numB_ge n h]; simp

def numGo (i n : Nat) : List UInt8 → Option (Nat × Nat)
  | [] => none
  | c :: l =>
    if i = 10 ∨ i = 9 ∧ 1 < c.toNat then none
    else if 128 ≤ c.toNat then numGo (i + 1) (n + c.toNat % 128 * 128 ^ i) l
    else if c.toNat = 0 ∧ 0 < i then none
    else some (n + c.toNat % 128 * 128 ^ i, i + 1)
def numP (l : List UInt8) : Option (Nat × Nat) := numGo 0 0 l

theorem numGo_bounds : ∀ (l : List UInt8) (i n : Nat), i ≤ 10 → n < 128 ^ i → (i = 10 → n < 18446744073709551616) → ∀ m s, numGo i n l = some (m, s) → m < 18446744073709551616 ∧ i < s ∧ s ≤ i + l.length ∧ s ≤ 10 := by
  intro l
  induction l with
  | nil => intro i n _ _ _ m s h; simp [numGo] at h
  | cons c l ih =>
    intro i n hi hn h10 m s h
    simp only [numGo] at h
    split at h
    · cases h
    · rename_i h1
      have hc : c.toNat < 256 := UInt8.toNat_lt c
      have hm : n + c.toNat % 128 * 128 ^ i < 128 ^ (i + 1) := by
        have h2 : c.toNat % 128 * 128 ^ i ≤ 127 * 128 ^ i := Nat.mul_le_mul_right _ (by omega)
        rw [Nat.pow_succ]; omega
      have hu : n + c.toNat % 128 * 128 ^ i < 18446744073709551616 := by
        by_cases h9 : i = 9
        · subst h9
          have : c.toNat ≤ 1 := by omega
          have h2 : c.toNat % 128 * 128 ^ 9 ≤ 1 * 128 ^ 9 := Nat.mul_le_mul_right _ (by omega)
          simp at h2 hn ⊢
          omega
        · have h8 : i + 1 ≤ 9 := by omega
          have : 128 ^ (i + 1) ≤ 128 ^ 9 := Nat.pow_le_pow_right (by omega) h8
          simp at this
          omega
      split at h
      · obtain ⟨a, b, c', d⟩ := ih (i + 1) _ (by omega) hm (fun _ => hu) m s h
        simp only [List.length_cons]
        omega
      · split at h
        · cases h
        · simp only [Option.some.injEq, Prod.mk.injEq] at h
          simp only [List.length_cons]
          omega

theorem numGo_numB : ∀ (k n i m : Nat) (rest : List UInt8), n < 128 ^ k → 0 < k → i + k ≤ 10 → (i + k = 10 → n < 2 * 128 ^ (k - 1)) → (0 < i → 0 < n) → numGo i m (numB n ++ rest) = some (m + n * 128 ^ i, i + (numB n).length) := by
  intro k
  induction k with
  | zero => intro n i m rest _ h; omega
  | succ k ih =>
    intro n i m rest hn _ hik h10 hpos
    by_cases h : n < 128
    · rw [numB_lt n h]
      simp only [List.cons_append, List.nil_append, numGo, b8_toNat n (by omega), List.length_singleton]
      rw [if_neg (by
        rintro (h1 | ⟨h1, h2⟩)
        · omega
        · have : k = 0 := by omega
          subst this
          have := h10 (by omega)
          simp at this
          omega), if_neg (by omega), if_neg (by omega), Nat.mod_eq_of_lt h]
    · rw [numB_ge n h]
      have hk : 0 < k := by
        rcases Nat.eq_zero_or_pos k with h0 | h0
        · subst h0; simp at hn; omega
        · exact h0
      have hq : n / 128 < 128 ^ k := by rw [Nat.pow_succ] at hn; exact Nat.div_lt_of_lt_mul (by omega)
      simp only [List.cons_append, numGo, b8_toNat (n % 128 + 128) (by omega), List.length_cons]
      rw [if_neg (by omega), if_pos (by omega), ih (n / 128) (i + 1) _ rest hq hk (by omega) (fun h1 => by
        have h2 := h10 (by omega)
        have h3 : k + 1 - 1 = (k - 1) + 1 := by omega
        rw [h3, Nat.pow_succ] at h2
        exact Nat.div_lt_of_lt_mul (by omega)) (fun _ => by omega)]
      have e1 : (n % 128 + 128) % 128 = n % 128 := by omega
      have e2 : n = n % 128 + 128 * (n / 128) := by omega
      rw [e1, Nat.pow_succ]
      congr 2
      · conv => rhs; rw [e2]
        rw [Nat.add_mul, Nat.mul_assoc, Nat.mul_comm 128, Nat.mul_assoc, Nat.add_assoc]
      · omega
theorem numP_numB (n : Nat) (rest : List UInt8) (h : n < 18446744073709551616) : numP (numB n ++ rest) = some (n, (numB n).length) := by
  have := numGo_numB 10 n 0 0 rest (by simp; omega) (by omega) (by omega) (fun _ => by simp; omega) (fun h => absurd h (by omega))
  simpa [numP] using this

theorem numGo_sole : ∀ (l : List UInt8) (i n : Nat), ∀ m s, numGo i n l = some (m, s) → ∃ q, m = n + q * 128 ^ i ∧ l.take (s - i) = numB q ∧ i < s ∧ (0 < i → 0 < q) := by
  intro l
  induction l with
  | nil => intro i n m s h; simp [numGo] at h
  | cons c l ih =>
    intro i n m s h
    have hc : c.toNat < 256 := UInt8.toNat_lt c
    simp only [numGo] at h
    split at h
    · cases h
    · split at h
      · rename_i h1 h2
        obtain ⟨q, rfl, ht, hs, hq⟩ := ih (i + 1) _ m s h
        have hq0 := hq (by omega)
        refine ⟨c.toNat % 128 + 128 * q, ?_, ?_, by omega, fun _ => by omega⟩
        · rw [Nat.pow_succ, Nat.add_mul, Nat.add_assoc]
          congr 2
          rw [Nat.mul_comm 128 q, Nat.mul_assoc, Nat.mul_comm (128 ^ i)]
        · have e : s - i = (s - (i + 1)) + 1 := by omega
          rw [e, List.take_succ_cons, ht, numB_ge (c.toNat % 128 + 128 * q) (by omega)]
          have e1 : (c.toNat % 128 + 128 * q) % 128 + 128 = c.toNat := by omega
          have e2 : (c.toNat % 128 + 128 * q) / 128 = q := by omega
          rw [e1, e2]
          simp [b8]
      · split at h
        · cases h
        · rename_i h1 h2 h3
          simp only [Option.some.injEq, Prod.mk.injEq] at h
          refine ⟨c.toNat, ?_, ?_, by omega, fun h0 => by omega⟩
          · rw [← h.1, Nat.mod_eq_of_lt (by omega)]
          · rw [← h.2, Nat.add_sub_cancel_left, numB_lt c.toNat (by omega)]
            simp [b8]
theorem numP_sole (l : List UInt8) (m s : Nat) (h : numP l = some (m, s)) : l.take s = numB m := by
  obtain ⟨q, h1, h2, _⟩ := numGo_sole l 0 0 m s h
  simp at h1
  subst h1
  simpa using h2
end Go.Proofs.YtonncfminojejaaGreatDoor

namespace Go.Proofs.YtonncfminojejaaGreatDoor
open Go.RowKit

def sLt (a b : Str) : Bool := Op.bytesLess a b
end Go.Proofs.YtonncfminojejaaGreatDoor

namespace Go.Proofs.YtonncfminojejaaGreatDoor
open Go.RowKit

def idOk (l : List Nat) (i : Nat) : Bool := !decide (l.getD i 0 = 0) && !decide (l.getD i 0 ∈ l.take i)
end Go.Proofs.YtonncfminojejaaGreatDoor

namespace Go.Proofs.YtonncfminojejaaGreatDoor
open Go.RowKit

def nameByte (c : Nat) : Bool := decide ((97 ≤ c ∧ c ≤ 122) ∨ (48 ≤ c ∧ c ≤ 57) ∨ c = 95)
def nameB (s : Str) : Bool := (s.all fun c => nameByte c.toNat) && decide (1 ≤ s.length ∧ s.length ≤ 12)

end Go.Proofs.YtonncfminojejaaGreatDoor

namespace Go.Proofs.YtonncfminojejaaGreatDoor
open Go.RowKit

def riseOk (l : List Str) (i : Nat) : Bool := nameB (l.getD i []) && (decide (i = 0) || sLt (l.getD (i - 1) []) (l.getD i []))
end Go.Proofs.YtonncfminojejaaGreatDoor

namespace Go.Proofs.YtonncfminojejaaGreatDoor
open Go.RowKit
instance : Inhabited DSch := ⟨.mk 0 [] []⟩
end Go.Proofs.YtonncfminojejaaGreatDoor

namespace Go.Proofs.YtonncfminojejaaGreatDoor
open Go.RowKit
instance : Inhabited DVal := ⟨.mk 0 0 [] [] [] []⟩
end Go.Proofs.YtonncfminojejaaGreatDoor

namespace Go.Proofs.YtonncfminojejaaGreatDoor
open Go.RowKit

def mo : Bool := true
inductive Own where
  | no
  | full
  | row (g : Nat)
inductive D where
  | v (x : Value)
  | agg (cs : List D)
  | tup (cs : List D)
  | fn (f : Fn) (fs cs : List D)
  | ifc (t : TypeId) (d : D)
  | loc (k off : Nat)
  | rd (cs : List D) (off : Nat)
  | sl (o : Own) (es : List D)
  | win (k off n c : Nat)
inductive Ob where
  | box (t : TypeId) (cs : List D)
  | row (e : TypeId) (n : Nat)
structure St where
  next : Nat
  ob : Nat → Option Ob

abbrev undefD : D := .tup []
def D.isAgg : D → Bool
  | .agg _ => true
  | _ => false
def D.cells : D → List D
  | .agg cs => cs
  | d => [d]
def D.width (d : D) : Nat := d.cells.length
def szOf (P : Program) (t : TypeId) : Nat := ((P.info? t).map (·.size)).getD 0

abbrev Names := Nat → Option (Option Nat)

def Fix (P : Program) (S : St) (η : Names) (b i : Nat) : Prop := ∀ k o, η k = some (some b) → S.ob k = some o → match o with
  | .box _ _ => False
  | .row e n => i < n * szOf P e

section
variable (P : Program) (w : World) (η : Names) (X : Nat → Nat → Prop)
def OwnAt (A : Option Addr) (n c : Nat) : Own → Prop
  | .no => True
  | .full => c = n
  | .row g => (η g = some none ∧ c = n) ∨ ∃ (b : Nat) (cur : Array Value) (e : TypeId), η g = some (some b) ∧ A = some ⟨b, 0, none⟩ ∧ w.heap[b]? = some (.cells cur e (0, 0)) ∧ cur.size = c * szOf P e
mutual
def Rep : D → Value → Prop
  | .v x, y => y = x
  | .agg cs, y => ∃ vs : List Value, y = .agg vs.toArray ∧ RepL cs vs ∧ ∀ x ∈ vs, x.oneCell' = true
  | .tup cs, y => ∃ vs : List Value, y = .tuple vs.toArray ∧ RepL cs vs
  | .fn f fs cs, y => ∃ us vs : List Value, y = .func f us.toArray vs.toArray ∧ RepL fs us ∧ RepL cs vs
  | .ifc t d, y => ∃ x, y = .iface t x ∧ Rep d x
  | .loc k off, y => ∃ b, η k = some (some b) ∧ y = .pointer (some ⟨b, off, none⟩)
  | .rd cs off, y => ∃ b o, y = .pointer (some ⟨b, o + off, none⟩) ∧ RepC cs b o
  | .sl own es, y => ∃ A c, y = .slice A es.length c ∧ es.length ≤ c ∧ es.length ≤ 140737488355328 ∧ OwnAt P w η A es.length c own ∧ (0 < es.length → ∃ b o z, A = some ⟨b, o, none⟩ ∧ 0 < z ∧ RepE z es b o)
  | .win k off n c, y => (∃ b, η k = some (some b) ∧ y = .slice (some ⟨b, off, none⟩) n c ∧ n ≤ c ∧ n ≤ 140737488355328) ∨ (η k = some none ∧ n = 0 ∧ c = 0 ∧ ∃ A, y = .slice A 0 0)
def RepL : List D → List Value → Prop
  | [], vs => vs = []
  | d :: ds, vs => ∃ x xs, vs = x :: xs ∧ Rep d x ∧ RepL ds xs
def RepC : List D → Nat → Nat → Prop
  | [], _, _ => True
  | d :: ds, b, o => (X b o ∧ ∃ x, w.cell? ⟨b, o, none⟩ = some x ∧ x.oneCell' = true ∧ Rep d x) ∧ RepC ds b (o + 1)
def RepE (z : Nat) : List D → Nat → Nat → Prop
  | [], _, _ => True
  | d :: ds, b, o => (RepA z d b o ∧ (d.isAgg = false → z = 1 ∧ X b o ∧ ∃ x, w.cell? ⟨b, o, none⟩ = some x ∧ x.oneCell' = true ∧ Rep d x)) ∧ RepE z ds b (o + z)
def RepA (z : Nat) : D → Nat → Nat → Prop
  | .agg cs, b, o => cs.length = z ∧ RepC cs b o
  | _, _, _ => True
end
end

def Own.all (N : Nat → Prop) : Own → Prop
  | .row g => N g
  | _ => True
mutual
def D.all (N : Nat → Prop) : D → Prop
  | .v _ => True
  | .agg cs => allL N cs
  | .tup cs => allL N cs
  | .fn _ fs cs => allL N fs ∧ allL N cs
  | .ifc _ d => D.all N d
  | .loc k _ => N k
  | .rd cs _ => allL N cs
  | .sl o es => o.all N ∧ allL N es
  | .win k _ _ _ => N k
def allL (N : Nat → Prop) : List D → Prop
  | [] => True
  | d :: ds => D.all N d ∧ allL N ds
end
theorem allL_iff {N : Nat → Prop} : ∀ {l : List D}, allL N l ↔ ∀ d ∈ l, d.all N
  | [] => by simp [allL]
  | d :: l => by simp [allL, allL_iff (l := l)]
theorem Own.all_mono {N M : Nat → Prop} (h : ∀ k, N k → M k) {o : Own} (ho : o.all N) : o.all M := by
  cases o <;> simp only [Own.all] at * <;> exact h _ ho
mutual
theorem D.all_mono {N M : Nat → Prop} (h : ∀ k, N k → M k) : ∀ {d : D}, d.all N → d.all M
  | .v _, hd => trivial
  | .agg cs, hd => by simp only [D.all] at *; exact allL_mono h hd
  | .tup cs, hd => by simp only [D.all] at *; exact allL_mono h hd
  | .fn _ fs cs, hd => by simp only [D.all] at *; exact ⟨allL_mono h hd.1, allL_mono h hd.2⟩
  | .ifc _ d, hd => by simp only [D.all] at *; exact D.all_mono h hd
  | .loc k _, hd => by simp only [D.all] at *; exact h _ hd
  | .rd cs _, hd => by simp only [D.all] at *; exact allL_mono h hd
  | .sl o es, hd => by simp only [D.all] at *; exact ⟨Own.all_mono h hd.1, allL_mono h hd.2⟩
  | .win k _ _ _, hd => by simp only [D.all] at *; exact h _ hd
theorem allL_mono {N M : Nat → Prop} (h : ∀ k, N k → M k) : ∀ {l : List D}, allL N l → allL M l
  | [], _ => trivial
  | d :: ds, hd => by simp only [allL] at *; exact ⟨D.all_mono h hd.1, allL_mono h hd.2⟩
end
mutual
theorem D.all_true : ∀ d : D, d.all (fun _ => True)
  | .v _ => trivial
  | .agg cs => by simp only [D.all]; exact allL_true cs
  | .tup cs => by simp only [D.all]; exact allL_true cs
  | .fn _ fs cs => by simp only [D.all]; exact ⟨allL_true fs, allL_true cs⟩
  | .ifc _ d => by simp only [D.all]; exact D.all_true d
  | .loc k _ => trivial
  | .rd cs _ => by simp only [D.all]; exact allL_true cs
  | .sl o es => by simp only [D.all]; exact ⟨by cases o <;> trivial, allL_true es⟩
  | .win k _ _ _ => trivial
theorem allL_true : ∀ l : List D, allL (fun _ => True) l
  | [] => trivial
  | d :: ds => by simp only [allL]; exact ⟨D.all_true d, allL_true ds⟩
end

structure Keep (N : Nat → Prop) (w : World) (η : Names) (X : Nat → Nat → Prop) (w' : World) (η' : Names) (X' : Nat → Nat → Prop) : Prop where
  size : w.heap.size ≤ w'.heap.size
  fix : ∀ b i, b < w.heap.size → X b i → X' b i ∧ w'.cell? ⟨b, i, none⟩ = w.cell? ⟨b, i, none⟩
  eta : ∀ k b, N k → η k = some b → η' k = some b
  shp : ∀ (b : Nat) (cur : Array Value) (e : TypeId), w.heap[b]? = some (.cells cur e (0, 0)) → ∃ cur' : Array Value, w'.heap[b]? = some (.cells cur' e (0, 0)) ∧ cur'.size = cur.size

section
variable {P : Program} {N : Nat → Prop} {w : World} {η : Names} {X : Nat → Nat → Prop} {w' : World} {η' : Names} {X' : Nat → Nat → Prop}
theorem OwnAt.keep (K : Keep N w η X w' η' X') {A : Option Addr} {n c : Nat} {o : Own} (ho : o.all N) (h : OwnAt P w η A n c o) : OwnAt P w' η' A n c o := by
  cases o with
  | no => trivial
  | full => exact h
  | row g =>
    rcases h with h | ⟨b, cur, e, h1, h2, h3, h4⟩
    · exact .inl ⟨K.eta _ _ ho h.1, h.2⟩
    · obtain ⟨cur', h6, h7⟩ := K.shp _ _ _ h3
      exact .inr ⟨b, cur', e, K.eta _ _ ho h1, h2, h6, by rw [h7, h4]⟩
theorem Keep.cell (K : Keep N w η X w' η' X') {b i : Nat} {x : Value} (hx : X b i) (h : w.cell? ⟨b, i, none⟩ = some x) : X' b i ∧ w'.cell? ⟨b, i, none⟩ = some x := by
  have := K.fix b i (World.block_lt_of_cell? w ⟨b, i, none⟩ h) hx
  exact ⟨this.1, this.2.trans h⟩
mutual
theorem Rep.keep (K : Keep N w η X w' η' X') : ∀ {d : D} {y : Value}, d.all N → Rep P w η X d y → Rep P w' η' X' d y
  | .v x, y, _, h => by simp only [Rep] at *; exact h
  | .agg cs, y, hd, h => by
    simp only [Rep, D.all] at *
    obtain ⟨vs, h1, h2, h3⟩ := h
    exact ⟨vs, h1, RepL.keep K hd h2, h3⟩
  | .tup cs, y, hd, h => by
    simp only [Rep, D.all] at *
    obtain ⟨vs, h1, h2⟩ := h
    exact ⟨vs, h1, RepL.keep K hd h2⟩
  | .fn f fs cs, y, hd, h => by
    simp only [Rep, D.all] at *
    obtain ⟨us, vs, h1, h2, h3⟩ := h
    exact ⟨us, vs, h1, RepL.keep K hd.1 h2, RepL.keep K hd.2 h3⟩
  | .ifc t d, y, hd, h => by
    simp only [Rep, D.all] at *
    obtain ⟨x, h1, h2⟩ := h
    exact ⟨x, h1, Rep.keep K hd h2⟩
  | .loc k off, y, hd, h => by
    simp only [Rep, D.all] at *
    obtain ⟨b, h1, h2⟩ := h
    exact ⟨b, K.eta _ _ hd h1, h2⟩
  | .rd cs off, y, hd, h => by
    simp only [Rep, D.all] at *
    obtain ⟨b, o, h1, h3⟩ := h
    exact ⟨b, o, h1, RepC.keep K hd h3⟩
  | .sl own es, y, hd, h => by
    simp only [Rep, D.all] at *
    obtain ⟨A, c, h1, h2, h3, h4, h5⟩ := h
    refine ⟨A, c, h1, h2, h3, h4.keep K hd.1, fun h0 => ?_⟩
    obtain ⟨b, o, z, e1, e3, e4⟩ := h5 h0
    exact ⟨b, o, z, e1, e3, RepE.keep K z hd.2 e4⟩
  | .win k off n c, y, hd, h => by
    simp only [Rep, D.all] at *
    rcases h with ⟨b, h1, h2⟩ | ⟨h1, h2⟩
    · exact .inl ⟨b, K.eta _ _ hd h1, h2⟩
    · exact .inr ⟨K.eta _ _ hd h1, h2⟩
theorem RepL.keep (K : Keep N w η X w' η' X') : ∀ {l : List D} {vs : List Value}, allL N l → RepL P w η X l vs → RepL P w' η' X' l vs
  | [], vs, _, h => by simp only [RepL] at *; exact h
  | d :: ds, vs, hd, h => by
    simp only [RepL, allL] at *
    obtain ⟨x, xs, h1, h2, h3⟩ := h
    exact ⟨x, xs, h1, Rep.keep K hd.1 h2, RepL.keep K hd.2 h3⟩
theorem RepC.keep (K : Keep N w η X w' η' X') : ∀ {l : List D} {b o : Nat}, allL N l → RepC P w η X l b o → RepC P w' η' X' l b o
  | [], b, o, _, h => by simp only [RepC] at *
  | d :: ds, b, o, hd, h => by
    simp only [RepC, allL] at *
    obtain ⟨⟨h1, x, h2, h3, h4⟩, h5⟩ := h
    obtain ⟨k1, k2⟩ := K.cell h1 h2
    exact ⟨⟨k1, x, k2, h3, Rep.keep K hd.1 h4⟩, RepC.keep K hd.2 h5⟩
theorem RepE.keep (K : Keep N w η X w' η' X') (z : Nat) : ∀ {l : List D} {b o : Nat}, allL N l → RepE P w η X z l b o → RepE P w' η' X' z l b o
  | [], b, o, _, h => by simp only [RepE] at *
  | d :: ds, b, o, hd, h => by
    simp only [RepE, allL] at *
    obtain ⟨⟨h1, h2⟩, h5⟩ := h
    refine ⟨⟨RepA.keep K z hd.1 h1, fun hn => ?_⟩, RepE.keep K z hd.2 h5⟩
    obtain ⟨e1, e2, x, e3, e4, e5⟩ := h2 hn
    obtain ⟨k1, k2⟩ := K.cell e2 e3
    exact ⟨e1, k1, x, k2, e4, Rep.keep K hd.1 e5⟩
theorem RepA.keep (K : Keep N w η X w' η' X') (z : Nat) : ∀ {d : D} {b o : Nat}, d.all N → RepA P w η X z d b o → RepA P w' η' X' z d b o
  | .agg cs, b, o, hd, h => by
    simp only [RepA, D.all] at *
    exact ⟨h.1, RepC.keep K hd h.2⟩
  | .v _, _, _, _, _ => by simp only [RepA]
  | .tup _, _, _, _, _ => by simp only [RepA]
  | .fn _ _ _, _, _, _, _ => by simp only [RepA]
  | .ifc _ _, _, _, _, _ => by simp only [RepA]
  | .loc _ _, _, _, _, _ => by simp only [RepA]
  | .rd _ _, _, _, _, _ => by simp only [RepA]
  | .sl _ _, _, _, _, _ => by simp only [RepA]
  | .win _ _ _ _, _, _, _, _ => by simp only [RepA]
end
theorem RepL.length : ∀ {l : List D} {vs : List Value}, RepL P w η X l vs → vs.length = l.length
  | [], vs, h => by simp only [RepL] at h; simp [h]
  | d :: ds, vs, h => by
    simp only [RepL] at h
    obtain ⟨x, xs, rfl, _, h3⟩ := h
    simp [RepL.length h3]
theorem RepL.get : ∀ {l : List D} {vs : List Value} (i : Nat) {d : D}, RepL P w η X l vs → l[i]? = some d → ∃ x, vs[i]? = some x ∧ Rep P w η X d x
  | [], vs, i, d, h, hi => by simp at hi
  | d :: ds, vs, i, d', h, hi => by
    simp only [RepL] at h
    obtain ⟨x, xs, rfl, h2, h3⟩ := h
    cases i with
    | zero => simp at hi; exact ⟨x, rfl, hi ▸ h2⟩
    | succ i => simpa using RepL.get i h3 (by simpa using hi)
theorem RepL.append : ∀ {l m : List D} {vs us : List Value}, RepL P w η X l vs → RepL P w η X m us → RepL P w η X (l ++ m) (vs ++ us)
  | [], m, vs, us, h, k => by simp only [RepL] at h; simpa [h] using k
  | d :: ds, m, vs, us, h, k => by
    simp only [RepL] at h
    obtain ⟨x, xs, rfl, h2, h3⟩ := h
    simp only [List.cons_append, RepL]
    exact ⟨x, xs ++ us, rfl, h2, RepL.append h3 k⟩
theorem RepL.drop : ∀ {l : List D} {vs : List Value} (i : Nat), RepL P w η X l vs → RepL P w η X (l.drop i) (vs.drop i)
  | [], vs, i, h => by simp only [RepL] at h; subst h; simp [RepL]
  | d :: ds, vs, 0, h => h
  | d :: ds, vs, i + 1, h => by
    simp only [RepL] at h
    obtain ⟨x, xs, rfl, h2, h3⟩ := h
    simpa using RepL.drop i h3
theorem RepL.take : ∀ {l : List D} {vs : List Value} (i : Nat), RepL P w η X l vs → RepL P w η X (l.take i) (vs.take i)
  | [], vs, i, h => by simp only [RepL] at h; subst h; simp [RepL]
  | d :: ds, vs, 0, h => by simp [RepL]
  | d :: ds, vs, i + 1, h => by
    simp only [RepL] at h
    obtain ⟨x, xs, rfl, h2, h3⟩ := h
    simp only [List.take_succ_cons, RepL]
    exact ⟨x, _, rfl, h2, RepL.take i h3⟩
theorem RepC.range : ∀ {l : List D} {b o : Nat}, RepC P w η X l b o → ∃ vs, vs.length = l.length ∧ w.rangeAt b o vs ∧ RepL P w η X l vs ∧ ∀ x ∈ vs, x.oneCell' = true
  | [], b, o, _ => ⟨[], rfl, fun j v h => by simp at h, by simp [RepL], fun x h => by cases h⟩
  | d :: ds, b, o, h => by
    simp only [RepC] at h
    obtain ⟨⟨h1, x, h2, h3, h4⟩, h5⟩ := h
    obtain ⟨vs, k1, k2, k3, k4⟩ := RepC.range h5
    refine ⟨x :: vs, by simp [k1], fun j v hj => ?_, by simp only [RepL]; exact ⟨x, vs, rfl, h4, k3⟩, fun u hu => ?_⟩
    · cases j with
      | zero => simp at hj; rw [Nat.add_zero, h2, hj]
      | succ j => have := k2 j v (by simpa using hj); rwa [show o + 1 + j = o + (j + 1) by omega] at this
    · rcases List.mem_cons.1 hu with rfl | hu
      · exact h3
      · exact k4 u hu
theorem RepC.drop : ∀ {l : List D} {b o : Nat} (i : Nat), RepC P w η X l b o → RepC P w η X (l.drop i) b (o + i)
  | [], b, o, i, _ => by simp [RepC]
  | d :: ds, b, o, 0, h => h
  | d :: ds, b, o, i + 1, h => by
    simp only [RepC] at h
    have := RepC.drop i h.2
    rw [show o + 1 + i = o + (i + 1) by omega] at this
    simpa using this
theorem RepC.take : ∀ {l : List D} {b o : Nat} (i : Nat), RepC P w η X l b o → RepC P w η X (l.take i) b o
  | [], b, o, i, _ => by simp [RepC]
  | d :: ds, b, o, 0, h => by simp [RepC]
  | d :: ds, b, o, i + 1, h => by
    simp only [RepC] at h
    simp only [List.take_succ_cons, RepC]
    exact ⟨h.1, RepC.take i h.2⟩
theorem RepC.mk : ∀ {l : List D} {vs : List Value} {b o : Nat}, RepL P w η X l vs → w.rangeAt b o vs → (∀ j, j < vs.length → X b (o + j)) → (∀ x ∈ vs, x.oneCell' = true) → RepC P w η X l b o
  | [], vs, b, o, _, _, _, _ => by simp [RepC]
  | d :: ds, vs, b, o, h, hr, hx, h1 => by
    simp only [RepL] at h
    obtain ⟨x, xs, rfl, h2, h3⟩ := h
    simp only [RepC]
    refine ⟨⟨by simpa using hx 0 (by simp), x, by simpa using hr 0 x rfl, h1 x (by simp), h2⟩, RepC.mk h3 (fun j v hj => ?_) (fun j hj => ?_) (fun y hy => h1 y (by simp [hy]))⟩
    · have := hr (j + 1) v (by simpa using hj); rwa [show o + 1 + j = o + (j + 1) by omega]
    · have := hx (j + 1) (by simp; omega); rwa [show o + 1 + j = o + (j + 1) by omega]
def RepEl (P : Program) (w : World) (η : Names) (X : Nat → Nat → Prop) (z : Nat) (d : D) (b o : Nat) : Prop := RepA P w η X z d b o ∧ (d.isAgg = false → z = 1 ∧ X b o ∧ ∃ x, w.cell? ⟨b, o, none⟩ = some x ∧ x.oneCell' = true ∧ Rep P w η X d x)
theorem RepEl.cells {z : Nat} {d : D} {b o : Nat} (h : RepEl P w η X z d b o) : d.width = z ∧ RepC P w η X d.cells b o := by
  obtain ⟨h1, h2⟩ := h
  cases hd : d.isAgg with
  | true =>
    cases d <;> simp [D.isAgg] at hd
    simp only [RepA] at h1
    exact ⟨h1.1, h1.2⟩
  | false =>
    obtain ⟨e1, e2, x, e3, e4, e5⟩ := h2 hd
    have hc : d.cells = [d] := by cases d <;> simp [D.isAgg] at hd <;> rfl
    refine ⟨by rw [D.width, hc, e1]; rfl, ?_⟩
    rw [hc]
    simp only [RepC]
    exact ⟨⟨e2, x, e3, e4, e5⟩, trivial⟩
theorem RepEl.mk {d : D} {b o : Nat} (h : RepC P w η X d.cells b o) : RepEl P w η X d.width d b o := by
  cases hd : d.isAgg with
  | true =>
    cases d <;> simp [D.isAgg] at hd
    exact ⟨by simp only [RepA]; exact ⟨rfl, h⟩, fun h' => by simp [D.isAgg] at h'⟩
  | false =>
    have hc : d.cells = [d] := by cases d <;> simp [D.isAgg] at hd <;> rfl
    have hw : d.width = 1 := by rw [D.width, hc]; rfl
    rw [hc] at h
    simp only [RepC] at h
    exact ⟨by cases d <;> simp [D.isAgg] at hd <;> simp only [RepA], fun _ => ⟨hw, h.1.1, h.1.2⟩⟩
theorem RepE.cons {z : Nat} {d : D} {l : List D} {b o : Nat} : RepE P w η X z (d :: l) b o ↔ RepEl P w η X z d b o ∧ RepE P w η X z l b (o + z) := by simp only [RepE, RepEl]
theorem RepE.get {z : Nat} : ∀ {l : List D} {b o : Nat} (i : Nat) {d : D}, RepE P w η X z l b o → l[i]? = some d → RepEl P w η X z d b (o + i * z)
  | [], b, o, i, d, h, hi => by simp at hi
  | d :: ds, b, o, 0, d', h, hi => by simp at hi; subst hi; simpa using (RepE.cons.1 h).1
  | d :: ds, b, o, i + 1, d', h, hi => by
    have := RepE.get i (RepE.cons.1 h).2 (by simpa using hi)
    rwa [show o + z + i * z = o + (i + 1) * z by rw [Nat.add_mul]; omega] at this
theorem RepE.mk {z : Nat} : ∀ {l : List D} {b o : Nat}, (∀ i d, l[i]? = some d → RepEl P w η X z d b (o + i * z)) → RepE P w η X z l b o
  | [], b, o, h => by simp [RepE]
  | d :: ds, b, o, h => RepE.cons.2 ⟨by simpa using h 0 d rfl, RepE.mk fun i d' hi => by
      have := h (i + 1) d' (by simpa using hi)
      rwa [show o + z + i * z = o + (i + 1) * z by rw [Nat.add_mul]; omega]⟩
end

mutual
theorem Rep.names {P : Program} {w : World} {η : Names} {X : Nat → Nat → Prop} : ∀ {d : D} {y : Value}, Rep P w η X d y → d.all (fun k => (η k).isSome = true)
  | .v x, y, _ => trivial
  | .agg cs, y, h => by
    simp only [Rep] at h
    obtain ⟨vs, h1, h2, h3⟩ := h
    simp only [D.all]
    exact RepL.names h2
  | .tup cs, y, h => by
    simp only [Rep] at h
    obtain ⟨vs, h1, h2⟩ := h
    simp only [D.all]
    exact RepL.names h2
  | .fn f fs cs, y, h => by
    simp only [Rep] at h
    obtain ⟨us, vs, h1, h2, h3⟩ := h
    simp only [D.all]
    exact ⟨RepL.names h2, RepL.names h3⟩
  | .ifc t d, y, h => by
    simp only [Rep] at h
    obtain ⟨x, h1, h2⟩ := h
    simp only [D.all]
    exact Rep.names h2
  | .loc k off, y, h => by
    simp only [Rep] at h
    obtain ⟨b, h1, h2⟩ := h
    simp only [D.all, h1, Option.isSome_some]
  | .rd cs off, y, h => by
    simp only [Rep] at h
    obtain ⟨b, o, h1, h3⟩ := h
    simp only [D.all]
    exact RepC.names h3
  | .sl own es, y, h => by
    simp only [Rep] at h
    obtain ⟨A, c, h1, h2, h3, h4, h5⟩ := h
    simp only [D.all]
    refine ⟨?_, ?_⟩
    · cases own with
      | no => trivial
      | full => trivial
      | row g =>
        simp only [Own.all]
        rcases h4 with ⟨h4, _⟩ | ⟨b, cur, e, h4, _⟩ <;> rw [h4] <;> rfl
    · rcases Nat.eq_zero_or_pos es.length with h0 | h0
      · have := List.eq_nil_of_length_eq_zero h0
        subst this
        simp only [allL]
      · obtain ⟨b, o, z, e1, e3, e4⟩ := h5 h0
        exact RepE.names e4
  | .win k off n c, y, h => by
    simp only [Rep] at h
    rcases h with ⟨b, h1, h2⟩ | ⟨h1, h2⟩ <;> simp only [D.all, h1, Option.isSome_some]
theorem RepL.names {P : Program} {w : World} {η : Names} {X : Nat → Nat → Prop} : ∀ {l : List D} {vs : List Value}, RepL P w η X l vs → allL (fun k => (η k).isSome = true) l
  | [], vs, _ => trivial
  | d :: ds, vs, h => by
    simp only [RepL] at h
    obtain ⟨x, xs, h1, h2, h3⟩ := h
    simp only [allL]
    exact ⟨Rep.names h2, RepL.names h3⟩
theorem RepC.names {P : Program} {w : World} {η : Names} {X : Nat → Nat → Prop} : ∀ {l : List D} {b o : Nat}, RepC P w η X l b o → allL (fun k => (η k).isSome = true) l
  | [], _, _, _ => trivial
  | d :: ds, b, o, h => by
    simp only [RepC] at h
    obtain ⟨⟨h1, x, h2, h3, h4⟩, h5⟩ := h
    simp only [allL]
    exact ⟨Rep.names h4, RepC.names h5⟩
theorem RepE.names {P : Program} {w : World} {η : Names} {X : Nat → Nat → Prop} {z : Nat} : ∀ {l : List D} {b o : Nat}, RepE P w η X z l b o → allL (fun k => (η k).isSome = true) l
  | [], _, _, _ => trivial
  | d :: ds, b, o, h => by
    simp only [RepE] at h
    obtain ⟨⟨h1, h2⟩, h5⟩ := h
    simp only [allL]
    refine ⟨?_, RepE.names h5⟩
    cases hd : d.isAgg with
    | true => exact RepA.names hd h1
    | false =>
      obtain ⟨e1, e2, x, e3, e4, e5⟩ := h2 hd
      exact Rep.names e5
theorem RepA.names {P : Program} {w : World} {η : Names} {X : Nat → Nat → Prop} {z : Nat} : ∀ {d : D} {b o : Nat}, d.isAgg = true → RepA P w η X z d b o → d.all (fun k => (η k).isSome = true)
  | .agg cs, b, o, _, h => by
    simp only [RepA] at h
    simp only [D.all]
    exact RepC.names h.2
  | .v _, _, _, h, _ => by cases h
  | .tup _, _, _, h, _ => by cases h
  | .fn _ _ _, _, _, h, _ => by cases h
  | .ifc _ _, _, _, h, _ => by cases h
  | .loc _ _, _, _, h, _ => by cases h
  | .rd _ _, _, _, h, _ => by cases h
  | .sl _ _, _, _, h, _ => by cases h
  | .win _ _ _ _, _, _, h, _ => by cases h
end

def globs : List (Nat × Value) := [(0, .iface 129 (.agg #[.pointer (some ⟨1, 30, none⟩)]))]
def globAt (g : Nat) : Option D := bif Nat.beq g 0 then some (.ifc 129 (.agg [.v (.pointer (some ⟨1, 30, none⟩))])) else none
def GlobOk (base : Nat) (w : World) : Prop := ∀ p ∈ globs, p.1 < base ∧ w.cell? ⟨p.1, 0, none⟩ = some p.2
theorem GlobOk.below {base : Nat} {w w' : World} (h : GlobOk base w) (hb : Below base w w') : GlobOk base w' := fun p hp => ⟨(h p hp).1, (hb.cell (p := ⟨p.1, 0, none⟩) (h p hp).1).trans (h p hp).2⟩
theorem glob_rep {P : Program} {w : World} {η : Names} {X : Nat → Nat → Prop} {base g : Nat} {d : D} (h : GlobOk base w) (hd : globAt g = some d) : ∃ v, w.cell? ⟨g, 0, none⟩ = some v ∧ Rep P w η X d v := by
  unfold globAt at hd
  cases hb : Nat.beq g 0 with
  | false => rw [hb] at hd; cases hd
  | true =>
    rw [hb] at hd
    injection hd with hd
    subst hd
    have e := Nat.eq_of_beq_eq_true hb
    subst e
    refine ⟨_, (h _ List.mem_cons_self).2, ?_⟩
    simp only [Rep, RepL]
    exact ⟨_, rfl, [_], rfl, ⟨_, _, rfl, rfl, rfl⟩, fun x hx => by rw [List.mem_singleton] at hx; subst hx; rfl⟩
structure Mem (P : Program) (base : Nat) (S : St) (η : Names) (w : World) : Prop where
  base_ : base ≤ w.heap.size
  dead : ∀ k, S.next ≤ k → η k = none
  fresh : ∀ k, S.next ≤ k → S.ob k = none
  live : ∀ k t cs, S.ob k = some (.box t cs) → ∃ b, η k = some (some b)
  inj : ∀ k k' b, η k = some (some b) → η k' = some (some b) → (S.ob k).isSome = true → (S.ob k').isSome = true → k = k'
  in_ : ∀ k b, η k = some (some b) → base ≤ b ∧ b < w.heap.size
  box : ∀ k t cs b, S.ob k = some (.box t cs) → η k = some (some b) → ∃ vs : List Value, w.heap[b]? = some (.cells vs.toArray t (0, 0)) ∧ RepL P w η (Fix P S η) cs vs ∧ ∀ x ∈ vs, x.oneCell' = true
  row : ∀ k e n b, S.ob k = some (.row e n) → η k = some (some b) → ∃ cur : Array Value, w.heap[b]? = some (.cells cur e (0, 0)) ∧ n * szOf P e ≤ cur.size
  glob : GlobOk base w
end Go.Proofs.YtonncfminojejaaGreatDoor

namespace Go.Proofs.YtonncfminojejaaGreatDoor
open Go.RowKit

def pureRun {α : Type} (P : Program) : Sem α → Option α
  | .pure a => some a
  | .program k => pureRun P (k P)
  | .mark _ k => pureRun P k
  | _ => none
theorem pureRun_run {α : Type} {P : Program} {s : Sem α} {x : α} (w : World) (h : pureRun P s = some x) : s.run P w = .ok x w := by
  induction s with
  | pure a => simp [pureRun] at h; subst h; rfl
  | program k ih => simp only [pureRun] at h; simp only [Sem.run]; exact ih _ h
  | mark m k ih => simp only [pureRun] at h; simp only [Sem.run]; exact ih h
  | _ => simp [pureRun] at h

def ofV0 : Value → D
  | .slice none 0 0 => .sl .full []
  | x => .v x
def ofV : Value → D
  | .slice none 0 0 => .sl .full []
  | .agg xs => bif xs.toList.all Value.oneCell' then .agg (xs.toList.map ofV0) else .v (.agg xs)
  | x => .v x
abbrev Fm := Nat → D
def put (f : Fm) : Option Tmp → D → Fm
  | none, _ => f
  | some t, d => fun i => bif Nat.beq i t then d else f i
def ev (f : Fm) : Operand → D
  | .tmp t => f t
  | .const v => ofV v
  | .global g => .v (.pointer (some ⟨g, 0, none⟩))
  | .func g => .fn (.func g) [] []
def okT (P : Program) (t : TypeId) : Bool := (P.underlying t).isSome && (P.info? t).isSome
def aggT (P : Program) (t : TypeId) : Bool := match P.underlying t with
  | some (.struct _) | some (.array _ _) => true
  | _ => false
def fld (P : Program) (t : TypeId) (i : Nat) : Option (Nat × TypeId) := match P.underlying t with
  | some (.struct fs) => (fs[i]?).map fun f => (f.offset, f.type)
  | _ => none
def elT (P : Program) (t : TypeId) : Option TypeId := match P.underlying t with
  | some (.slice e) => some e
  | _ => none
def arT (P : Program) (t : TypeId) : Option (Nat × TypeId) := match P.underlying t with
  | some (.array n e) => some (n, e)
  | _ => none
def strT (P : Program) (t : TypeId) : Bool := match P.underlying t with
  | some .string => true
  | _ => false
def u8T (P : Program) (t : TypeId) : Bool := match P.underlying t with
  | some (.int .u8) => true
  | _ => false
def bD (b : UInt8) : D := .v (.int .u8 b.toNat)
def bOf : D → UInt8
  | .v (.int .u8 n) => n.toNat.toUInt8
  | _ => 0
def bytesD (es : List D) : List UInt8 := es.map bOf
theorem bOf_bD (b : UInt8) : bOf (bD b) = b := by simp [bOf, bD]
theorem bytesD_map (l : List UInt8) : bytesD (l.map bD) = l := by
  unfold bytesD
  rw [List.map_map, show bOf ∘ bD = id from funext bOf_bD, List.map_id]
def ptrT (P : Program) (t : TypeId) : Bool := match P.underlying t with
  | some (.pointer _) => true
  | _ => false
def ifaceT (P : Program) (t : TypeId) : Bool := match P.underlying t with
  | some (.interface _) => true
  | _ => false
def rdOk (P : Program) (t : TypeId) (cs : List D) (off : Nat) : Prop := okT P t = true ∧ (bif aggT P t then off + szOf P t ≤ cs.length else off < cs.length)
def rdVal (P : Program) (t : TypeId) (cs : List D) (off : Nat) : D := bif aggT P t then .agg ((cs.drop off).take (szOf P t)) else cs.getD off undefD

def bnd (f : Fm) (o : Option Operand) (d : Int) : Option Int := match o with
  | none => some d
  | some x => match ev f x with
    | .v (.int _ i) => some i
    | _ => none
def winOff (c l off z : Nat) : Nat := bif Nat.beq c l then off else off + l * z
theorem winOff_zero (c off z : Nat) : winOff c 0 off z = off := by unfold winOff; cases Nat.beq c 0 <;> simp
theorem winOff_lt {c l off z : Nat} (h : l < c) : winOff c l off z = off + l * z := by
  unfold winOff
  cases hb : Nat.beq c l with
  | false => rfl
  | true => have := Nat.eq_of_beq_eq_true hb; omega
def vals : List D → Option (List Value)
  | [] => some []
  | .v x :: l => (vals l).map (x :: ·)
  | _ => none
def isConstB : Operand → Bool
  | .const _ => true
  | _ => false
def cellEq : Value → Value → Bool
  | .string a, .string b => a.toList == b.toList
  | .int _ a, .int _ b => a == b
  | .bool a, .bool b => a == b
  | _, _ => false
def valsEq : List Value → List Value → Bool
  | [], [] => true
  | a :: l, b :: m => cellEq a b && valsEq l m
  | _, _ => false
def EqOk (P : Program) (op : BinOp) (t : TypeId) (x y : Operand) (us vs : List Value) (r : Bool) : Prop := ∀ w, (do eqGuard op t x y (.agg us.toArray) (.agg vs.toArray); binOp op t (.agg us.toArray) (.agg vs.toArray) : Sem Value).run P w = .ok (.bool r) w
def dbinA (P : Program) (op : BinOp) (t : TypeId) (x y : Operand) : Option (List Value) → Option (List Value) → Option (Prop × D)
  | some us, some vs => match op with
    | .eql => some (EqOk P .eql t x y us vs (valsEq us vs), .v (.bool (valsEq us vs)))
    | .neq => some (EqOk P .neq t x y us vs (!valsEq us vs), .v (.bool (!valsEq us vs)))
    | _ => none
  | _, _ => none
def ifcB (t1 : TypeId) (a : D) (t2 : TypeId) (b : D) : Bool := t1 == t2 && (match a, b with | .v p, .v q => valsEq [p] [q] | _, _ => false)
def IfcEq (P : Program) (t : TypeId) (x y : Operand) (t1 : TypeId) (a : D) (t2 : TypeId) (b : D) : Prop :=
  ∀ w η X u v, Rep P w η X a u → Rep P w η X b v → (do eqGuard .eql t x y (.iface t1 u) (.iface t2 v); binOp .eql t (.iface t1 u) (.iface t2 v) : Sem Value).run P w = .ok (.bool (ifcB t1 a t2 b)) w
def isNilC : Operand → Bool
  | .const (.slice none 0 0) => true
  | _ => false
theorem isNilC_spec {y : Operand} (h : isNilC y = true) : y = .const (.slice none 0 0) := by
  unfold isNilC at h
  split at h
  · rfl
  · cases h
def nilCmp (P : Program) (op : BinOp) (t : TypeId) (c : Prop) : Option (Prop × D) := match op with
  | .eql => some ((elT P t).isSome = true ∧ c, .v (.bool false))
  | .neq => some ((elT P t).isSome = true ∧ c, .v (.bool true))
  | _ => none
def dbin (P : Program) (op : BinOp) (t : TypeId) (x y : Operand) (a b : D) : Option (Prop × D) := match a, b with
  | .agg cs, .agg ds => dbinA P op t x y (vals cs) (vals ds)
  | .v a, .v b => (pureRun P (do eqGuard op t x y a b; binOp op t a b)).map fun r => (True, .v r)
  | .ifc _ _, .v .nilIface | .v .nilIface, .ifc _ _ => match op with
    | .eql => some (ifaceT P t = true, .v (.bool false))
    | .neq => some (ifaceT P t = true, .v (.bool true))
    | _ => none
  | .loc _ _, .v (.pointer none) => match op with
    | .eql => some (ptrT P t = true, .v (.bool false))
    | .neq => some (ptrT P t = true, .v (.bool true))
    | _ => none
  | .rd _ _, .v (.pointer none) => match op with
    | .eql => some (ptrT P t = true, .v (.bool false))
    | .neq => some (ptrT P t = true, .v (.bool true))
    | _ => none
  | .ifc t1 a, .ifc t2 b => match op with
    | .eql => some (IfcEq P t x y t1 a t2 b, .v (.bool (ifcB t1 a t2 b)))
    | _ => none
  | .v u, .sl .full [] => bif isNilC y then (pureRun P (do eqGuard op t x y u (.slice none 0 0); binOp op t u (.slice none 0 0))).map fun r => (True, .v r) else none
  | .sl _ es, .sl .full [] => bif isNilC y then nilCmp P op t (0 < es.length) else none
  | .win _ _ n _, .sl .full [] => bif isNilC y then nilCmp P op t (0 < n) else none
  | _, _ => none
def dlen (P : Program) (b : Builtin) (ts : Array TypeId) (a : List D) : Option (Prop × D) := match b, a with
  | .len, [.sl _ es] => some ((ts[0]?.bind (elT P)).isSome = true, .v (.int .i64 es.length))
  | .len, [.win _ _ n _] => some ((ts[0]?.bind (elT P)).isSome = true, .v (.int .i64 n))
  | .cap, [.sl .full es] => some ((ts[0]?.bind (elT P)).isSome = true, .v (.int .i64 es.length))
  | .cap, [.win _ _ _ c] => some ((ts[0]?.bind (elT P)).isSome = true, .v (.int .i64 c))
  | _, _ => none
def dbuiltin (P : Program) (b : Builtin) (ts : Array TypeId) (ty : TypeId) (cs : Array Bool) (a : List D) : Option (Prop × D) := match vals a with
  | some vs => match pureRun P (builtin b ts ty cs vs.toArray) with
    | some (.value r) => some (True, .v r)
    | _ => dlen P b ts a
  | none => dlen P b ts a

def dval (P : Program) (f : Fm) (S : St) (ty : TypeId) : Op → Option (Prop × D)
  | .move x | .assign x => some (True, ev f x)
  | .pick c a b => match ev f c with
    | .v (.bool t) => some (True, bif t then ev f a else ev f b)
    | _ => none
  | .load t a => match ev f a with
    | .loc k off => match S.ob k with
      | some (.box _ cs) => some (rdOk P t cs off, rdVal P t cs off)
      | _ => none
    | .rd cs off => some (rdOk P t cs off, rdVal P t cs off)
    | .v (.pointer (some a)) => match globAt a.block with
      | some d => some (a = ⟨a.block, 0, none⟩ ∧ okT P t = true ∧ aggT P t = false, d)
      | none => none
    | _ => none
  | .fieldAddr t x i => match fld P t i with
    | some (fo, ft) => match ev f x with
      | .loc k off => some (okT P ft = true ∧ szOf P ft ≠ 0, .loc k (off + fo))
      | .rd cs off => some (okT P ft = true ∧ szOf P ft ≠ 0, .rd cs (off + fo))
      | _ => none
    | none => none
  | .field t x i => match fld P t i with
    | some (fo, ft) => match ev f x with
      | .agg cs => some (rdOk P ft cs fo, rdVal P ft cs fo)
      | _ => none
    | none => none
  | .indexAddr t x ix => match ev f ix with
    | .v (.int _ i) => match ev f x with
      | .sl _ es => match elT P t with
        | some e => some (okT P e = true ∧ 0 ≤ i ∧ i < es.length ∧ (es.getD i.toNat undefD).width = szOf P e, .rd (es.getD i.toNat undefD).cells 0)
        | none => none
      | .win k off n _ => match elT P t with
        | some e => some (okT P e = true ∧ 0 ≤ i ∧ i < n, .loc k (off + i.toNat * szOf P e))
        | none => none
      | .loc k off => match arT P t with
        | some (n, e) => some (okT P e = true ∧ 0 ≤ i ∧ i < n, .loc k (off + i.toNat * szOf P e))
        | none => none
      | .rd cs off => match arT P t with
        | some (n, e) => some (okT P e = true ∧ 0 ≤ i ∧ i < n, .rd cs (off + i.toNat * szOf P e))
        | none => none
      | _ => none
    | _ => none
  | .index t x ix => match ev f ix with
    | .v (.int _ i) => match ev f x with
      | .agg cs => match arT P t with
        | some (n, e) => some (0 ≤ i ∧ i < n ∧ rdOk P e cs (i.toNat * szOf P e), rdVal P e cs (i.toNat * szOf P e))
        | none => none
      | .v (.string s) => some (strT P t = true ∧ 0 ≤ i ∧ i < s.size, .v (.int .u8 (s.data.toList.getD i.toNat 0).toNat))
      | _ => none
    | _ => none
  | .extract x i => match ev f x with
    | .tup ds => some (i < ds.length, ds.getD i undefD)
    | _ => none
  | .makeFunc fn fs cs => some (True, .fn fn (fs.toList.map (ev f)) (cs.toList.map (ev f)))
  | .makeInterface t x => some ((P.underlying t).isSome = true ∧ ifaceT P t = false, .ifc t (ev f x))
  | .nilCheck x => match ev f x with
    | .loc k off => some (True, .loc k off)
    | .rd cs off => some (True, .rd cs off)
    | .fn (.func g) fs cs => some (True, .fn (.func g) fs cs)
    | _ => none
  | .slice t x lo hi none => match ev f x with
    | .sl _ es => match elT P t with
      | some e => match bnd f lo 0 with
        | some l => match bnd f hi es.length with
          | some h => some (okT P e = true ∧ 0 ≤ l ∧ l ≤ h ∧ h ≤ es.length ∧ (l = 0 ∨ ∀ d ∈ es, d.width = szOf P e), .sl .no ((es.take h.toNat).drop l.toNat))
          | none => none
        | none => none
      | none => none
    | .win k off n c => match elT P t with
      | some e => match bnd f lo 0 with
        | some l => match bnd f hi n with
          | some h => some (okT P e = true ∧ 0 ≤ l ∧ l ≤ h ∧ h ≤ c ∧ h ≤ 140737488355328, .win k (winOff c l.toNat off (szOf P e)) (h.toNat - l.toNat) (c - l.toNat))
          | none => none
        | none => none
      | none => none
    | .v (.string s) => match bnd f lo 0 with
      | some l => match bnd f hi s.size with
        | some h => some (strT P t = true ∧ 0 ≤ l ∧ l ≤ h ∧ h ≤ s.size, .v (.string (s.extract l.toNat h.toNat)))
        | none => none
      | none => none
    | .loc k off => match arT P t with
      | some (n, e) => some (okT P e = true ∧ n ≤ 140737488355328 ∧ lo = none ∧ hi = none, .win k off n n)
      | none => none
    | _ => none
  | .slice t x lo hi (some mx) => match ev f x with
    | .sl _ es => match elT P t with
      | some e => match bnd f lo 0 with
        | some l => match bnd f hi es.length with
          | some h => match bnd f (some mx) 0 with
            | some m => some (okT P e = true ∧ 0 ≤ l ∧ l ≤ h ∧ h = m ∧ h ≤ es.length ∧ hi.isSome = true ∧ (l = 0 ∨ ∀ d ∈ es, d.width = szOf P e), .sl .full ((es.take h.toNat).drop l.toNat))
            | none => none
          | none => none
        | none => none
      | none => none
    | .win k off n c => match elT P t with
      | some e => match bnd f lo 0 with
        | some l => match bnd f hi n with
          | some h => match bnd f (some mx) 0 with
            | some m => some (okT P e = true ∧ 0 ≤ l ∧ l ≤ h ∧ h ≤ m ∧ m ≤ c ∧ h ≤ 140737488355328 ∧ hi.isSome = true, .win k (winOff m.toNat l.toNat off (szOf P e)) (h.toNat - l.toNat) (m.toNat - l.toNat))
            | none => none
          | none => none
        | none => none
      | none => none
    | _ => none
  | .binOp op t x y _ => dbin P op t x y (ev f x) (ev f y)
  | .unOp op _ x => match ev f x with
    | .v a => (pureRun P (Op.unary op a)).map fun r => (True, .v r)
    | _ => none
  | .convert s d x => match ev f x with
    | .v a => (pureRun P (convert s d a)).map fun r => (True, .v r)
    | .sl _ es => match elT P s with
      | some e => some (u8T P e = true ∧ strT P d = true ∧ es = (bytesD es).map bD, .v (.string ⟨(bytesD es).toArray⟩))
      | none => none
    | _ => none
  | .call c => match c.callee with
    | .builtin b => dbuiltin P b c.argTypes ty (c.args.map isConstB) (c.args.toList.map (ev f))
    | _ => none
  | _ => none

/-! ### That the machine yields it -/
section
variable {P : Program} {w : World} {η : Names} {X : Nat → Nat → Prop} {f : Fm} {a : Act} {S : St} {base : Nat}
theorem Rep.ofV0 (x : Value) : Rep P w η X (ofV0 x) x := by
  unfold Go.Proofs.YtonncfminojejaaGreatDoor.ofV0
  split
  · simp only [Rep]
    exact ⟨none, 0, rfl, Nat.le_refl _, by simp, rfl, fun h => absurd h (by simp)⟩
  · simp only [Rep]
theorem RepL.ofV0 : ∀ l : List Value, RepL P w η X (l.map Go.Proofs.YtonncfminojejaaGreatDoor.ofV0) l
  | [] => by simp only [List.map_nil, RepL]
  | x :: l => by simp only [List.map_cons, RepL]; exact ⟨x, l, rfl, Rep.ofV0 x, RepL.ofV0 l⟩
theorem Rep.ofV (x : Value) : Rep P w η X (ofV x) x := by
  unfold Go.Proofs.YtonncfminojejaaGreatDoor.ofV
  split
  · simp only [Rep]
    exact ⟨none, 0, rfl, Nat.le_refl _, by simp, rfl, fun h => absurd h (by simp)⟩
  · rename_i xs
    by_cases hx : xs.toList.all Value.oneCell' = true
    · rw [hx, cond_true]
      simp only [Rep]
      exact ⟨xs.toList, rfl, RepL.ofV0 _, fun y hy => List.all_eq_true.1 hx y hy⟩
    · rw [Bool.not_eq_true] at hx
      rw [hx, cond_false]
      simp only [Rep]
  · simp only [Rep]
def RepF (P : Program) (w : World) (η : Names) (X : Nat → Nat → Prop) (f : Fm) (a : Act) : Prop := ∀ t, t < a.tmps.size → Rep P w η X (f t) (a.tmps.getD t undef)
def opnOk (n : Nat) : Operand → Bool
  | .tmp t => Nat.blt t n
  | _ => true
theorem RepF.ev (h : RepF P w η X f a) {x : Operand} (hx : opnOk a.tmps.size x = true) : Rep P w η X (ev f x) (a.eval x) := by
  cases x with
  | tmp t => exact h t (by simpa [opnOk, Nat.blt_eq] using hx)
  | const v => exact Rep.ofV v
  | global g => simp only [Proofs.YtonncfminojejaaGreatDoor.ev, Rep]; rfl
  | func g => simp only [Proofs.YtonncfminojejaaGreatDoor.ev, Rep, RepL]; exact ⟨[], [], rfl, rfl, rfl⟩
theorem RepF.put (h : RepF P w η X f a) {d : D} {v : Value} (hd : Rep P w η X d v) (o : Option Tmp) : RepF P w η X (put f o d) (a.put o v) := by
  cases o with
  | none => exact h
  | some t =>
    intro i hi
    have hi' : i < a.tmps.size := by simpa [Act.put] using hi
    simp only [Proofs.YtonncfminojejaaGreatDoor.put, Act.put]
    by_cases e : i = t
    · subst e
      simpa [Nat.beq_eq_true_eq, hi'] using hd
    · have hb : Nat.beq i t = false := by
        cases h : Nat.beq i t with
        | false => rfl
        | true => exact absurd (Nat.eq_of_beq_eq_true h) e
      have := h i hi'
      simpa [hb, Array.getElem?_setIfInBounds_ne (Ne.symm e)] using this
theorem okT_spec {t : TypeId} (h : okT P t = true) : ∃ d i, P.underlying t = some d ∧ P.info? t = some i ∧ szOf P t = i.size := by
  simp only [okT, Bool.and_eq_true, Option.isSome_iff_exists] at h
  obtain ⟨⟨d, hd⟩, i, hi⟩ := h
  exact ⟨d, i, hd, hi, by simp [szOf, hi]⟩
theorem aggT_spec {t : TypeId} {d : TypeDesc} (h : P.underlying t = some d) : aggT P t = d.isRow := by
  unfold aggT
  rw [h]
  cases d <;> rfl
theorem run_load_cells {t : TypeId} {cs : List D} {b o off : Nat} (hok : rdOk P t cs off) (h : RepC P w η X cs b o) :
    ∃ v, (Instr.loadAt t (.pointer (some ⟨b, o + off, none⟩))).run P w = .ok v w ∧ Rep P w η X (rdVal P t cs off) v := by
  obtain ⟨h1, h2⟩ := hok
  obtain ⟨d, i, hu, hi, hsz⟩ := okT_spec h1
  cases hg : aggT P t with
  | true =>
    simp only [hg, cond_true] at h2
    obtain ⟨vs, k1, k2, k3, k4⟩ := ((h.drop off).take (szOf P t)).range
    have hl : vs.length = szOf P t := by rw [k1, List.length_take, List.length_drop]; omega
    refine ⟨.agg vs.toArray, run_loadAt_mid w b (o + off) t vs d k2 hu (by rw [← aggT_spec hu, hg]) (by rw [hi]; simp [hl, hsz]), ?_⟩
    simp only [rdVal, hg, cond_true, Rep]
    exact ⟨vs, rfl, k3, k4⟩
  | false =>
    simp only [hg, cond_false] at h2
    have hdr := h.drop off
    rw [List.drop_eq_getElem_cons h2] at hdr
    simp only [RepC] at hdr
    obtain ⟨⟨_, x, hx, _, hr⟩, _⟩ := hdr
    refine ⟨x, ?_, ?_⟩
    · have hn := aggT_spec hu
      rw [hg] at hn
      have hagg : (isAgg t).run P w = .ok false w := by
        unfold isAgg
        rw [Sem.run_bind, run_underlying hu w]
        cases d <;> simp_all
      simp [Instr.loadAt, Instr.sureAddr, loadVar, Sem.run_bind, hagg, load, Sem.run, hx]
    · simp only [rdVal, hg, cond_false]
      rw [List.getD_eq_getElem?_getD, List.getElem?_eq_getElem h2]
      exact hr
theorem run_part_cells {t : TypeId} {cs : List D} {vs : List Value} {off : Nat} (hok : rdOk P t cs off) (h : RepL P w η X cs vs) (h1 : ∀ x ∈ vs, x.oneCell' = true) :
    ∃ v, (part t vs.toArray off).run P w = .ok v w ∧ Rep P w η X (rdVal P t cs off) v := by
  obtain ⟨h1', h2⟩ := hok
  obtain ⟨d, i, hu, hi, hsz⟩ := okT_spec h1'
  have hl := h.length
  have hn := aggT_spec hu
  have hagg : (isAgg t).run P w = .ok (aggT P t) w := by
    unfold isAgg
    rw [Sem.run_bind, run_underlying hu w]
    rw [hn]
    cases d <;> rfl
  cases hg : aggT P t with
  | true =>
    simp only [hg, cond_true] at h2
    refine ⟨.agg ((vs.drop off).take (szOf P t)).toArray, ?_, ?_⟩
    · rw [hg] at hagg
      simp [part, Sem.run_bind, hagg, sizeOf, typeInfo, hi, hsz]
    · simp only [rdVal, hg, cond_true, Rep]
      exact ⟨_, rfl, (h.drop off).take _, fun x hx => h1 x (List.mem_of_mem_drop (List.mem_of_mem_take hx))⟩
  | false =>
    simp only [hg, cond_false] at h2
    obtain ⟨x, hx, hr⟩ := h.get off (List.getElem?_eq_getElem h2)
    refine ⟨x, ?_, ?_⟩
    · rw [hg] at hagg
      have hlt : off < vs.length := by omega
      rw [List.getElem?_eq_getElem hlt] at hx
      simp [part, Sem.run_bind, hagg, hx, List.getElem?_eq_getElem hlt]
    · simp only [rdVal, hg, cond_false]
      rw [List.getD_eq_getElem?_getD, List.getElem?_eq_getElem h2]
      exact hr
theorem vals_rep : ∀ {l : List D} {vs us : List Value}, vals l = some vs → RepL P w η X l us → us = vs
  | [], vs, us, h, k => by simp only [RepL] at k; simp [vals] at h; rw [k, h]
  | d :: l, vs, us, h, k => by
    simp only [RepL] at k
    obtain ⟨x, xs, rfl, k1, k2⟩ := k
    cases d <;> simp only [vals] at h <;> try (cases h; done)
    rename_i y
    simp only [Rep] at k1
    subst k1
    cases hv : vals l with
    | none => rw [hv] at h; cases h
    | some ws =>
      rw [hv] at h
      simp at h
      rw [vals_rep hv k2, h]
theorem repL_map (h : RepF P w η X f a) : ∀ {l : List Operand}, (∀ x ∈ l, opnOk a.tmps.size x = true) → RepL P w η X (l.map (ev f)) (l.map a.eval)
  | [], _ => by simp [RepL]
  | x :: l, hx => by
    simp only [List.map_cons, RepL]
    exact ⟨_, _, rfl, h.ev (hx x (by simp)), repL_map h fun y hy => hx y (by simp [hy])⟩

theorem elT_spec {t e : TypeId} (h : elT P t = some e) : P.underlying t = some (.slice e) := by
  unfold elT at h
  split at h
  · injection h with h; subst h; assumption
  · cases h
theorem arT_spec {t e : TypeId} {n : Nat} (h : arT P t = some (n, e)) : P.underlying t = some (.array n e) := by
  unfold arT at h
  split at h
  · injection h with h; injection h with h1 h2; subst h1 h2; assumption
  · cases h
theorem u8T_spec {t : TypeId} (h : u8T P t = true) : P.underlying t = some (.int .u8) := by
  unfold u8T at h
  split at h
  · assumption
  · cases h
theorem RepE.bytes {z : Nat} {l : List UInt8} {b o : Nat} (h : RepE P w η X z (l.map bD) b o) {j : Nat} {u : UInt8} (hj : l[j]? = some u) : w.cell? ⟨b, o + j, none⟩ = some (bv u) := by
  have h0 := RepE.get j (d := bD u) h (by rw [List.getElem?_map, hj]; rfl)
  obtain ⟨hz, _, x, h1, _, h2⟩ := h0.2 rfl
  subst hz
  rw [Nat.mul_one] at h1
  rw [h1]
  simp only [bD, Rep] at h2
  rw [h2]
theorem strT_spec {t : TypeId} (h : strT P t = true) : P.underlying t = some .string := by
  unfold strT at h
  split at h
  · assumption
  · cases h
theorem fld_spec {t ft : TypeId} {i fo : Nat} (h : fld P t i = some (fo, ft)) : ∃ fs fd, P.underlying t = some (.struct fs) ∧ fs[i]? = some fd ∧ fd.offset = fo ∧ fd.type = ft := by
  unfold fld at h
  split at h
  · rename_i fs hfs
    cases hx : fs[i]? with
    | none => rw [hx] at h; cases h
    | some fd =>
      rw [hx] at h
      simp at h
      exact ⟨fs, fd, hfs, hx, h.1, h.2⟩
  · cases h
theorem run_fieldAt {t ft : TypeId} {i fo b o : Nat} (h : fld P t i = some (fo, ft)) (hok : okT P ft = true ∧ szOf P ft ≠ 0) : (Instr.fieldAt t (.pointer (some ⟨b, o, none⟩)) i).run P w = .ok (.pointer (some ⟨b, o + fo, none⟩)) w := by
  obtain ⟨fs, fd, h1, h2, h3, h4⟩ := fld_spec h
  obtain ⟨h5, h6⟩ := hok
  obtain ⟨d, ti, h7, h8, h9⟩ := okT_spec h5
  subst h4
  rw [h9] at h6
  simp [Instr.fieldAt, Sem.run_bind, run_underlying h1, h2, Instr.sureAddr, fieldPlace, sizeOf, typeInfo, h8, h6, Addr.add_lit, h3]
theorem run_indexAt_slice {t e : TypeId} {k : IntKind} {i : Int} {b o n c : Nat} (h : elT P t = some e) (he : okT P e = true) (h0 : 0 ≤ i) (h1 : i < n) : (Instr.indexAt t (.slice (some ⟨b, o, none⟩) n c) (.int k i)).run P w = .ok (.pointer (some ⟨b, o + i.toNat * szOf P e, none⟩)) w := by
  have hu := elT_spec h
  obtain ⟨d, ti, h7, h8, h9⟩ := okT_spec he
  simp [Instr.indexAt, Sem.run_bind, asIntOf, run_underlying hu, h0, h1, sizeOf, typeInfo, h8, h9, Addr.add_lit]
theorem run_indexAt_array {t e : TypeId} {k : IntKind} {i : Int} {b o n : Nat} (h : arT P t = some (n, e)) (he : okT P e = true) (h0 : 0 ≤ i) (h1 : i < n) : (Instr.indexAt t (.pointer (some ⟨b, o, none⟩)) (.int k i)).run P w = .ok (.pointer (some ⟨b, o + i.toNat * szOf P e, none⟩)) w := by
  have hu := arT_spec h
  obtain ⟨d, ti, h7, h8, h9⟩ := okT_spec he
  simp [Instr.indexAt, Instr.sureAddr, Sem.run_bind, asIntOf, run_underlying hu, h0, h1, sizeOf, typeInfo, h8, h9, Addr.add_lit]
theorem bnd_spec (h : RepF P w η X f a) {o : Option Operand} (ho : ∀ x, o = some x → opnOk a.tmps.size x = true) {d i : Int} (hb : bnd f o d = some i) : (o = none ∧ i = d) ∨ ∃ k, o.map a.eval = some (.int k i) := by
  cases o with
  | none => left; simp [bnd] at hb; exact ⟨rfl, hb.symm⟩
  | some x =>
    right
    have := h.ev (ho x rfl)
    unfold bnd at hb
    simp only at hb
    split at hb
    · rename_i k j hx
      rw [hx] at this
      simp only [Rep] at this
      injection hb with hb
      exact ⟨k, by simp [this, hb]⟩
    · cases hb
theorem run_bounds (h : RepF P w η X f a) {lo hi : Option Operand} (hlo : ∀ x, lo = some x → opnOk a.tmps.size x = true) (hhi : ∀ x, hi = some x → opnOk a.tmps.size x = true) (isS : Bool) {len cap : Nat} {l m : Int} (hl : bnd f lo 0 = some l) (hm : bnd f hi len = some m)
    (h0 : 0 ≤ l) (h1 : l ≤ m) (h2 : m ≤ cap) : (Instr.sliceBounds isS len cap (lo.map a.eval) (hi.map a.eval) none).run P w = .ok (l.toNat, m.toNat, cap) w := by
  rcases bnd_spec h hlo hl with ⟨rfl, rfl⟩ | ⟨k, e1⟩ <;> rcases bnd_spec h hhi hm with ⟨rfl, rfl⟩ | ⟨k', e2⟩
  · simp [Instr.sliceBounds]
  · have : m ≤ (cap : Int) := by omega
    simp [Instr.sliceBounds, e2, Instr.sliceBound, asIntOf, h1, this]
  · have : l ≤ (len : Int) := by omega
    simp [Instr.sliceBounds, e1, Instr.sliceBound, asIntOf, h0, this]
  · have h4 : m ≤ (cap : Int) := by omega
    have h5 : 0 ≤ m := by omega
    have h6 : l ≤ max m 0 := by omega
    simp [Instr.sliceBounds, e1, e2, Instr.sliceBound, asIntOf, h0, h4, h5, h6]
theorem Rep.win_slice {k off n c : Nat} {y : Value} (h : Rep P w η X (.win k off n c) y) : ∃ A, y = .slice A n c ∧ n ≤ c ∧ n ≤ 140737488355328 ∧ ((∃ b, η k = some (some b) ∧ A = some ⟨b, off, none⟩) ∨ (η k = some none ∧ n = 0 ∧ c = 0)) := by
  simp only [Rep] at h
  rcases h with ⟨b, h1, h2, h3, h4⟩ | ⟨h1, rfl, rfl, A, h4⟩
  · exact ⟨_, h2, h3, h4, .inl ⟨b, h1, rfl⟩⟩
  · exact ⟨_, h4, Nat.le_refl _, by omega, .inr ⟨h1, rfl, rfl⟩⟩
theorem rep_win_part {kk off n c l h m z : Nat} {A : Option Addr} (e0 : (∃ b, η kk = some (some b) ∧ A = some ⟨b, off, none⟩) ∨ (η kk = some none ∧ n = 0 ∧ c = 0)) (hm : m ≤ c) (hlm : l ≤ m) (h1 : h - l ≤ m - l) (h2 : h ≤ 140737488355328) : Rep P w η X (.win kk (winOff m l off z) (h - l) (m - l)) (.slice (if m = l then A else A.map (·.add (l * z))) (h - l) (m - l)) := by
  simp only [Rep, winOff]
  rcases e0 with ⟨b, e0, rfl⟩ | ⟨e0, rfl, rfl⟩
  · refine .inl ⟨b, e0, ?_, h1, by omega⟩
    by_cases e : m = l
    · subst e
      simp
    · have : Nat.beq m l = false := by
        cases hb : Nat.beq m l with
        | false => rfl
        | true => exact absurd (Nat.eq_of_beq_eq_true hb) e
      rw [if_neg e, this]
      simp [Addr.add_lit]
  · have e1 : m = 0 := by omega
    have e2 : l = 0 := by omega
    subst e1 e2
    exact .inr ⟨e0, by omega, rfl, A, by rw [if_pos rfl]; congr 1; omega⟩
theorem Rep.part {A : Option Addr} {n c l h : Nat} {es : List D} {z : Nat} {own : Own} (hz : es.length = n) (h1 : l ≤ h) (h2 : h ≤ n) (hc : n ≤ c) (hb : n ≤ 140737488355328) (hw : l = 0 ∨ ∀ d ∈ es, d.width = z)
    (hE : 0 < n → ∃ b o z, A = some ⟨b, o, none⟩ ∧ 0 < z ∧ RepE P w η X z es b o) {m : Nat} (hm : h ≤ m) (hown : OwnAt P w η (if m = l then A else A.map (·.add (l * z))) (h - l) (m - l) own) :
    Rep P w η X (.sl own ((es.take h).drop l)) (.slice (if m = l then A else A.map (·.add (l * z))) (h - l) (m - l)) := by
  have hlen : ((es.take h).drop l).length = h - l := by rw [List.length_drop, List.length_take]; omega
  simp only [Rep]
  refine ⟨_, m - l, by rw [hlen], by omega, by omega, by rw [hlen]; exact hown, fun h0 => ?_⟩
  rw [hlen] at h0
  obtain ⟨b, o, z', hA, h0z, hr⟩ := hE (by omega)
  rw [if_neg (by omega), hA]
  have hzz : l = 0 ∨ z' = z := by
    rcases hw with hw | hw
    · exact .inl hw
    · right
      cases es with
      | nil =>
        exfalso
        have hz0 : (0 : Nat) = n := hz
        clear hr hE hA hw hown hlen
        omega
      | cons d es =>
        have := (RepE.cons.1 hr).1.cells.1
        rw [← this]
        exact hw d (by simp)
  refine ⟨b, o + l * z, z', by simp [Addr.add_lit], h0z, RepE.mk fun i d hi => ?_⟩
  have hi' : es[l + i]? = some d := by
    rw [List.getElem?_drop, List.getElem?_take] at hi
    split at hi
    · exact hi
    · cases hi
  have := RepE.get (l + i) hr hi'
  rcases hzz with rfl | rfl
  · simpa using this
  · rwa [show o + l * z' + i * z' = o + (l + i) * z' by rw [Nat.add_mul]; omega]
theorem run_slice_part {t e : TypeId} {A : Option Addr} {n c l h m : Nat} {lo hi mx : Option Value} (ht : elT P t = some e) (he : okT P e = true) (hb : (Instr.sliceBounds true n c lo hi mx).run P w = .ok (l, h, m) w) :
    (Instr.sliceAt t (.slice A n c) lo hi mx).run P w = .ok (.slice (if m = l then A else A.map (·.add (l * szOf P e))) (h - l) (m - l)) w := by
  have hu := elT_spec ht
  obtain ⟨d, ti, h7, h8, h9⟩ := okT_spec he
  simp [Instr.sliceAt, Instr.slice, Sem.run_bind, run_underlying hu, hb, sizeOf, typeInfo, h8, h9]

def opsOk (n : Nat) (op : Op) : Bool := op.operands.all (opnOk n)
theorem opsOk_spec {n : Nat} {op : Op} (h : opsOk n op = true) : ∀ x ∈ op.operands, opnOk n x = true := Array.all_eq_true_iff_forall_mem.1 h
theorem map_some_eq {α β : Type} {o : Option α} {g : α → β} {y : β} (h : o.map g = some y) : ∃ x, o = some x ∧ g x = y := by
  cases o with
  | none => cases h
  | some x => injection h with h; exact ⟨x, rfl, h⟩
theorem dval_index (hf : RepF P w η X f a) {o : Oper} (hop : ∀ x ∈ o.op.operands, opnOk a.tmps.size x = true) (t : TypeId) (x ix : Operand) (ho : o.op = .indexAddr t x ix) {c : Prop} {d : D} (h : dval P f S o.type o.op = some (c, d)) (hc : c) :
    ∃ v, (execOp a.eval o).run P w = .ok (.value v) w ∧ Rep P w η X d v := by
  rw [ho] at h hop
  have h1 := hf.ev (hop x (by simp [Op.operands]))
  have h2 := hf.ev (hop ix (by simp [Op.operands]))
  simp only [dval] at h
  split at h
  · rename_i k i hi
    rw [hi] at h2
    simp only [Rep] at h2
    split at h
    · rename_i own es hx
      rw [hx] at h1
      simp only [Rep] at h1
      obtain ⟨A, cap, e1, e2, e3, e4, e5⟩ := h1
      split at h
      · rename_i e he
        injection h with h
        injection h with hp hd
        subst hp hd
        obtain ⟨k1, k2, k3, k4⟩ := hc
        obtain ⟨b, p, z, rfl, hz, hr⟩ := e5 (by omega)
        have hlt : i.toNat < es.length := by omega
        have hget : es[i.toNat]? = some (es.getD i.toNat undefD) := by rw [List.getD_eq_getElem?_getD, List.getElem?_eq_getElem hlt]; rfl
        have hel := (RepE.get i.toNat hr hget).cells
        refine ⟨.pointer (some ⟨b, p + i.toNat * szOf P e, none⟩), ?_, ?_⟩
        · unfold execOp
          simp only [ho, e1, h2, Sem.run_bind, run_indexAt_slice he k1 k2 k3, Result.andThen_ok]
          rfl
        · simp only [Rep]
          refine ⟨b, p + i.toNat * szOf P e, rfl, ?_⟩
          have := hel.2
          rwa [← hel.1, k4] at this
      · cases h
    · rename_i kk off n c' hx
      rw [hx] at h1
      obtain ⟨A, e1, e2, e3, e0⟩ := h1.win_slice
      split at h
      · rename_i e he
        injection h with h
        injection h with hp hd
        subst hp hd
        obtain ⟨k1, k2, k3⟩ := hc
        rcases e0 with ⟨b, e0, rfl⟩ | ⟨_, rfl, _⟩
        rotate_left
        · omega
        refine ⟨.pointer (some ⟨b, off + i.toNat * szOf P e, none⟩), ?_, ?_⟩
        · unfold execOp
          simp only [ho, e1, h2, Sem.run_bind, run_indexAt_slice he k1 k2 k3, Result.andThen_ok]
          rfl
        · simp only [Rep]
          exact ⟨b, e0, rfl⟩
      · cases h
    · rename_i kk off hx
      rw [hx] at h1
      simp only [Rep] at h1
      obtain ⟨b, e1, e2⟩ := h1
      split at h
      · rename_i n e he
        injection h with h
        injection h with hp hd
        subst hp hd
        obtain ⟨k1, k2, k3⟩ := hc
        refine ⟨.pointer (some ⟨b, off + i.toNat * szOf P e, none⟩), ?_, ?_⟩
        · unfold execOp
          simp only [ho, e2, h2, Sem.run_bind, run_indexAt_array he k1 k2 k3, Result.andThen_ok]
          rfl
        · simp only [Rep]
          exact ⟨b, e1, rfl⟩
      · cases h
    · rename_i cs off hx
      rw [hx] at h1
      simp only [Rep] at h1
      obtain ⟨b, p, e1, e2⟩ := h1
      split at h
      · rename_i n e he
        injection h with h
        injection h with hp hd
        subst hp hd
        obtain ⟨k1, k2, k3⟩ := hc
        refine ⟨.pointer (some ⟨b, p + off + i.toNat * szOf P e, none⟩), ?_, ?_⟩
        · unfold execOp
          simp only [ho, e1, h2, Sem.run_bind, run_indexAt_array he k1 k2 k3, Result.andThen_ok]
          rfl
        · simp only [Rep]
          exact ⟨b, p, by rw [Nat.add_assoc], e2⟩
      · cases h
    · cases h
  · cases h
theorem dval_slice (hf : RepF P w η X f a) {o : Oper} (hop : ∀ x ∈ o.op.operands, opnOk a.tmps.size x = true) (t : TypeId) (x : Operand) (lo hi : Option Operand) (ho : o.op = .slice t x lo hi none) {c : Prop} {d : D} (h : dval P f S o.type o.op = some (c, d)) (hc : c) :
    ∃ v, (execOp a.eval o).run P w = .ok (.value v) w ∧ Rep P w η X d v := by
  rw [ho] at h hop
  have h1 := hf.ev (hop x (by simp [Op.operands]))
  have hlo : ∀ y, lo = some y → opnOk a.tmps.size y = true := fun y hy => hop y (by simp [Op.operands, hy])
  have hhi : ∀ y, hi = some y → opnOk a.tmps.size y = true := fun y hy => hop y (by simp [Op.operands, hy])
  simp only [dval] at h
  split at h
  · rename_i own es hx
    rw [hx] at h1
    simp only [Rep] at h1
    obtain ⟨A, cap, e1, e2, e3, e4, e5⟩ := h1
    split at h
    · rename_i e he
      split at h
      · rename_i l hl
        split at h
        · rename_i m hm
          injection h with h
          injection h with hp hd
          subst hp hd
          obtain ⟨k1, k2, k3, k4, k5⟩ := hc
          have hb := run_bounds (P := P) (w := w) hf hlo hhi true hl hm k2 k3 (show m ≤ (cap : Int) by omega)
          refine ⟨_, ?_, Rep.part (z := szOf P e) (m := cap) rfl (show l.toNat ≤ m.toNat by omega) (by omega) e2 e3 (by rcases k5 with k5 | k5; exact .inl (by omega); exact .inr k5) e5 (by omega) trivial⟩
          unfold execOp
          simp only [ho, e1, Sem.run_bind]
          rw [show Option.map a.eval (none : Option Operand) = none from rfl, run_slice_part he k1 hb]
          rfl
        · cases h
      · cases h
    · cases h
  · rename_i kk off n c' hx
    rw [hx] at h1
    obtain ⟨A, e1, e2, e3, e0⟩ := h1.win_slice
    split at h
    · rename_i e he
      split at h
      · rename_i l hl
        split at h
        · rename_i m hm
          injection h with h
          injection h with hp hd
          subst hp hd
          obtain ⟨k1, k2, k3, k4, k5⟩ := hc
          have hb := run_bounds (P := P) (w := w) hf hlo hhi true hl hm k2 k3 k4
          refine ⟨_, ?_, rep_win_part (l := l.toNat) (h := m.toNat) (m := c') (z := szOf P e) e0 (Nat.le_refl _) (by omega) (by omega) (by omega)⟩
          unfold execOp
          simp only [ho, e1, Sem.run_bind]
          rw [show Option.map a.eval (none : Option Operand) = none from rfl, run_slice_part he k1 hb]
          rfl
        · cases h
      · cases h
    · cases h
  · rename_i s hx
    rw [hx] at h1
    simp only [Rep] at h1
    split at h
    · rename_i l hl
      split at h
      · rename_i m hm
        injection h with h
        injection h with hp hd
        subst hp hd
        obtain ⟨k1, k2, k3, k4⟩ := hc
        have hb := run_bounds (P := P) (w := w) hf hlo hhi false hl hm k2 k3 k4
        refine ⟨_, ?_, by simp only [Rep]; rfl⟩
        have hu := strT_spec k1
        unfold execOp
        simp [ho, h1, Instr.sliceAt, Instr.slice, Sem.run_bind, run_underlying hu, hb]
      · cases h
    · cases h
  · rename_i k off hx
    rw [hx] at h1
    simp only [Rep] at h1
    obtain ⟨b, e1, e2⟩ := h1
    split at h
    · rename_i n e he
      injection h with h
      injection h with hp hd
      subst hp hd
      obtain ⟨k1, k2, rfl, rfl⟩ := hc
      have hu := arT_spec he
      obtain ⟨d8, i8, h8, h9, _⟩ := okT_spec k1
      refine ⟨.slice (some ⟨b, off, none⟩) n n, ?_, by simp only [Rep]; exact .inl ⟨b, e1, rfl, Nat.le_refl _, k2⟩⟩
      unfold execOp
      simp [ho, e2, Instr.sliceAt, Instr.sureAddr, Instr.sliceBounds, Sem.run_bind, run_underlying hu, sizeOf, typeInfo, h9, Addr.add_lit]
    · cases h
  · cases h
theorem dval_slice3 (hf : RepF P w η X f a) {o : Oper} (hop : ∀ x ∈ o.op.operands, opnOk a.tmps.size x = true) (t : TypeId) (x : Operand) (lo hi : Option Operand) (mx : Operand) (ho : o.op = .slice t x lo hi (some mx)) {c : Prop} {d : D} (h : dval P f S o.type o.op = some (c, d)) (hc : c) :
    ∃ v, (execOp a.eval o).run P w = .ok (.value v) w ∧ Rep P w η X d v := by
  rw [ho] at h hop
  have h1 := hf.ev (hop x (by simp [Op.operands]))
  have hlo : ∀ y, lo = some y → opnOk a.tmps.size y = true := fun y hy => hop y (by simp [Op.operands, hy])
  have hhi : ∀ y, hi = some y → opnOk a.tmps.size y = true := fun y hy => hop y (by simp [Op.operands, hy])
  have hmx : ∀ y, some mx = some y → opnOk a.tmps.size y = true := fun y hy => hop y (by simp [Op.operands, hy])
  simp only [dval] at h
  split at h
  · rename_i own es hx
    rw [hx] at h1
    simp only [Rep] at h1
    obtain ⟨A, cap, e1, e2, e3, e4, e5⟩ := h1
    split at h
    · rename_i e he
      split at h
      · rename_i l hl
        split at h
        · rename_i m hm
          split at h
          · rename_i q hq
            injection h with h
            injection h with hp hd
            subst hp hd
            obtain ⟨k1, k2, k3, k4, k5, k6, k7⟩ := hc
            subst k4
            have hb : (Instr.sliceBounds true es.length cap (lo.map a.eval) (hi.map a.eval) (some (a.eval mx))).run P w = .ok (l.toNat, m.toNat, m.toNat) w := by
              obtain ⟨y, rfl⟩ := Option.isSome_iff_exists.1 k6
              rcases bnd_spec hf hhi hm with ⟨e, _⟩ | ⟨k', e2'⟩
              · cases e
              rcases bnd_spec hf hmx hq with ⟨e, _⟩ | ⟨k'', e3'⟩
              · cases e
              simp only [Option.map_some, Option.some.injEq] at e2' e3'
              have g1 : m ≤ (cap : Int) := by omega
              have g2 : (0 : Int) ≤ m := by omega
              have g3 : l ≤ max m 0 := by omega
              rcases bnd_spec hf hlo hl with ⟨rfl, rfl⟩ | ⟨k, e1'⟩
              · simp [Instr.sliceBounds, e2', e3', Instr.sliceBound, asIntOf, g1, g2]
                omega
              · simp [Instr.sliceBounds, e1', e2', e3', Instr.sliceBound, asIntOf, g1, g2, g3, k2]
                omega
            refine ⟨_, ?_, Rep.part (z := szOf P e) (m := m.toNat) rfl (show l.toNat ≤ m.toNat by omega) (by omega) e2 e3 (by rcases k7 with k7 | k7; exact .inl (by omega); exact .inr k7) e5 (Nat.le_refl _) rfl⟩
            unfold execOp
            simp only [ho, e1, Sem.run_bind]
            rw [show Option.map a.eval (some mx) = some (a.eval mx) from rfl, run_slice_part he k1 hb]
            rfl
          · cases h
        · cases h
      · cases h
    · cases h
  · rename_i kk off n c' hx
    rw [hx] at h1
    obtain ⟨A, e1, e2, e3, e0⟩ := h1.win_slice
    split at h
    · rename_i e he
      split at h
      · rename_i l hl
        split at h
        · rename_i m hm
          split at h
          · rename_i q hq
            injection h with h
            injection h with hp hd
            subst hp hd
            obtain ⟨k1, k2, k3, k4, k5, k6, k7⟩ := hc
            have hb : (Instr.sliceBounds true n c' (lo.map a.eval) (hi.map a.eval) (some (a.eval mx))).run P w = .ok (l.toNat, m.toNat, q.toNat) w := by
              obtain ⟨y, rfl⟩ := Option.isSome_iff_exists.1 k7
              rcases bnd_spec hf hhi hm with ⟨e, _⟩ | ⟨k', e2'⟩
              · cases e
              rcases bnd_spec hf hmx hq with ⟨e, _⟩ | ⟨k'', e3'⟩
              · cases e
              simp only [Option.map_some, Option.some.injEq] at e2' e3'
              have g1 : q ≤ (c' : Int) := by omega
              have g2 : (0 : Int) ≤ q := by omega
              have g3 : l ≤ max m 0 := by omega
              have g4 : (0 : Int) ≤ m := by omega
              have g5 : m ≤ max q 0 := by omega
              rcases bnd_spec hf hlo hl with ⟨rfl, rfl⟩ | ⟨k, e1'⟩
              · simp [Instr.sliceBounds, e2', e3', Instr.sliceBound, asIntOf, g1, g2, g4, g5]
              · simp [Instr.sliceBounds, e1', e2', e3', Instr.sliceBound, asIntOf, g1, g2, g3, g4, g5, k2]
            refine ⟨_, ?_, rep_win_part (l := l.toNat) (h := m.toNat) (m := q.toNat) (z := szOf P e) e0 (by omega) (by omega) (by omega) (by omega)⟩
            unfold execOp
            simp only [ho, e1, Sem.run_bind]
            rw [show Option.map a.eval (some mx) = some (a.eval mx) from rfl, run_slice_part he k1 hb]
            rfl
          · cases h
        · cases h
      · cases h
    · cases h
  · cases h

theorem equal_iface_nil {t tt : TypeId} {q : Value} {ms : Array (String × TypeId)} (hm : P.underlying t = some (.interface ms)) : (Op.equal t (.iface tt q) .nilIface).run P w = .ok false w := by
  have key : ∀ d, (Op.equalIn (d + 1) t (.iface tt q) .nilIface).run P w = .ok false w := fun d => by
    simp only [Op.equalIn, Sem.run_bind, run_underlying hm, Result.andThen_ok]
    rfl
  exact key 9999
theorem equal_nil_iface {t tt : TypeId} {q : Value} {ms : Array (String × TypeId)} (hm : P.underlying t = some (.interface ms)) : (Op.equal t .nilIface (.iface tt q)).run P w = .ok false w := by
  have key : ∀ d, (Op.equalIn (d + 1) t .nilIface (.iface tt q)).run P w = .ok false w := fun d => by
    simp only [Op.equalIn, Sem.run_bind, run_underlying hm, Result.andThen_ok]
    rfl
  exact key 9999
theorem equal_ptr_nil {t e : TypeId} {q : Addr} (hm : P.underlying t = some (.pointer e)) : (Op.equal t (.pointer (some q)) (.pointer none)).run P w = .ok false w := by
  have key : ∀ d, (Op.equalIn (d + 1) t (.pointer (some q)) (.pointer none)).run P w = .ok false w := fun d => by
    simp only [Op.equalIn, Sem.run_bind, run_underlying hm, Result.andThen_ok]
    rfl
  exact key 9999
theorem equal_slice_nil {t e : TypeId} {a : Addr} {n c : Nat} (ht : P.underlying t = some (.slice e)) : (Op.equal t (.slice (some a) n c) (.slice none 0 0)).run P w = .ok false w := by
  have key : ∀ d, (Op.equalIn (d + 1) t (.slice (some a) n c) (.slice none 0 0)).run P w = .ok false w := fun d => by
    simp only [Op.equalIn, Sem.run_bind, run_underlying ht, Result.andThen_ok]
    rfl
  exact key 9999
theorem nilCmp_sound {op : BinOp} {t : TypeId} {x y : Operand} {q : Prop} {a : Addr} {n m : Nat} {c : Prop} {d : D} (h : nilCmp P op t q = some (c, d)) (hc : c) :
    ∃ r, (do eqGuard op t x y (.slice (some a) n m) (.slice none 0 0); binOp op t (.slice (some a) n m) (.slice none 0 0) : Sem Value).run P w = .ok r w ∧ Rep P w η X d r := by
  unfold nilCmp at h
  split at h <;> try (cases h; done)
  all_goals
    injection h with h
    injection h with hp hd
    subst hp hd
    obtain ⟨e, he⟩ := Option.isSome_iff_exists.1 hc.1
    have hm := elT_spec he
    refine ⟨_, ?_, by simp only [Rep]; rfl⟩
    simp [eqGuard, binOp, equal_slice_nil hm]
theorem nilCmp_pos {op : BinOp} {t : TypeId} {q : Prop} {c : Prop} {d : D} (h : nilCmp P op t q = some (c, d)) (hc : c) : q := by
  unfold nilCmp at h
  split at h <;> try (cases h; done)
  all_goals
    injection h with h
    injection h with hp hd
    subst hp
    exact hc.2
theorem dbin_sound {op : BinOp} {t : TypeId} {x y : Operand} {d1 d2 : D} {u v : Value} (hy : ∀ k, y = .const k → v = k) (h1 : Rep P w η X d1 u) (h2 : Rep P w η X d2 v) {c : Prop} {d : D} (h : dbin P op t x y d1 d2 = some (c, d)) (hc : c) :
    ∃ r, (do eqGuard op t x y u v; binOp op t u v : Sem Value).run P w = .ok r w ∧ Rep P w η X d r := by
  unfold dbin at h
  split at h
  · rename_i p q
    simp only [Rep] at h1 h2
    obtain ⟨us, rfl, hu, _⟩ := h1
    obtain ⟨vs, rfl, hv, _⟩ := h2
    unfold dbinA at h
    split at h
    · rename_i us' vs' e1 e2
      have h3 := vals_rep e1 hu
      have h4 := vals_rep e2 hv
      subst h3 h4
      split at h <;> try (cases h; done)
      all_goals
        injection h with h
        injection h with hp hd
        subst hp hd
        exact ⟨_, hc w, by simp only [Rep]⟩
    · cases h
  · rename_i p q
    simp only [Rep] at h1 h2
    subst h1 h2
    obtain ⟨r, hr, he⟩ := map_some_eq h
    injection he with _ he
    subst he
    exact ⟨r, pureRun_run w hr, by simp only [Rep]⟩
  · rename_i tt dd
    simp only [Rep] at h1 h2
    obtain ⟨q, rfl, _⟩ := h1
    subst h2
    split at h <;> try (cases h; done)
    all_goals
      injection h with h
      injection h with hp hd
      subst hp hd
      unfold ifaceT at hc
      split at hc <;> try (cases hc; done)
      rename_i ms hm
      refine ⟨_, ?_, by simp only [Rep]; rfl⟩
      simp [eqGuard, binOp, equal_iface_nil hm]
  · rename_i tt dd
    simp only [Rep] at h1 h2
    obtain ⟨q, rfl, _⟩ := h2
    subst h1
    split at h <;> try (cases h; done)
    all_goals
      injection h with h
      injection h with hp hd
      subst hp hd
      unfold ifaceT at hc
      split at hc <;> try (cases hc; done)
      rename_i ms hm
      refine ⟨_, ?_, by simp only [Rep]; rfl⟩
      simp [eqGuard, binOp, equal_nil_iface hm]
  · simp only [Rep] at h1 h2
    obtain ⟨b, _, rfl⟩ := h1
    subst h2
    split at h <;> try (cases h; done)
    all_goals
      injection h with h
      injection h with hp hd
      subst hp hd
      unfold ptrT at hc
      split at hc <;> try (cases hc; done)
      rename_i ms hm
      refine ⟨_, ?_, by simp only [Rep]; rfl⟩
      simp [eqGuard, binOp, equal_ptr_nil hm]
  · simp only [Rep] at h1 h2
    obtain ⟨b, o, rfl, _⟩ := h1
    subst h2
    split at h <;> try (cases h; done)
    all_goals
      injection h with h
      injection h with hp hd
      subst hp hd
      unfold ptrT at hc
      split at hc <;> try (cases hc; done)
      rename_i ms hm
      refine ⟨_, ?_, by simp only [Rep]; rfl⟩
      simp [eqGuard, binOp, equal_ptr_nil hm]
  · rename_i t1 a t2 b
    simp only [Rep] at h1 h2
    obtain ⟨p, rfl, hp⟩ := h1
    obtain ⟨q, rfl, hq⟩ := h2
    split at h <;> try (cases h; done)
    injection h with h
    injection h with hpp hd
    subst hpp hd
    exact ⟨_, hc w η X p q hp hq, by simp only [Rep]⟩
  · rename_i p
    cases hn : isNilC y with
    | false => rw [hn] at h; cases h
    | true =>
      rw [hn] at h
      have hv := hy _ (isNilC_spec hn)
      subst hv
      simp only [Rep] at h1
      subst h1
      obtain ⟨r, hr, he⟩ := map_some_eq h
      injection he with _ he
      subst he
      exact ⟨r, pureRun_run w hr, by simp only [Rep]⟩
  · rename_i own es
    cases hn : isNilC y with
    | false => rw [hn] at h; cases h
    | true =>
      rw [hn] at h
      have hv := hy _ (isNilC_spec hn)
      subst hv
      have hpos := nilCmp_pos h hc
      simp only [Rep] at h1
      obtain ⟨A, cap, rfl, _, _, _, h5⟩ := h1
      obtain ⟨b, o, z, rfl, _⟩ := h5 hpos
      exact nilCmp_sound h hc
  · rename_i k off n cc
    cases hn : isNilC y with
    | false => rw [hn] at h; cases h
    | true =>
      rw [hn] at h
      have hv := hy _ (isNilC_spec hn)
      subst hv
      have hpos : 0 < n := nilCmp_pos h hc
      simp only [Rep] at h1
      rcases h1 with ⟨b, _, rfl, _⟩ | ⟨_, h0, _⟩
      · exact nilCmp_sound h hc
      · omega
  · cases h
theorem dlen_sound {b : Builtin} {ts : Array TypeId} {ty : TypeId} {cs : Array Bool} {l : List D} {us : List Value} (hr : RepL P w η X l us) {c : Prop} {d : D} (h : dlen P b ts l = some (c, d)) (hc : c) :
    ∃ v, (builtin b ts ty cs us.toArray).run P w = .ok (.value v) w ∧ Rep P w η X d v := by
  unfold dlen at h
  split at h
  · rename_i own es
    injection h with h
    injection h with hp hd
    subst hp hd
    simp only [RepL, Rep] at hr
    obtain ⟨x, xs, rfl, ⟨A, cap, rfl, _⟩, rfl⟩ := hr
    obtain ⟨e, he⟩ := Option.isSome_iff_exists.1 hc
    cases ht : ts[0]? with
    | none => rw [ht] at he; cases he
    | some t =>
      rw [ht] at he
      have hu := elT_spec (t := t) he
      refine ⟨_, ?_, by simp only [Rep]; rfl⟩
      simp [builtin, Builtin.len_, ht, Sem.run_bind, run_underlying hu, goInt]
  · rename_i kk n
    injection h with h
    injection h with hp hd
    subst hp hd
    simp only [RepL] at hr
    obtain ⟨x, xs, rfl, hrw, rfl⟩ := hr
    obtain ⟨A, rfl, _⟩ := hrw.win_slice
    obtain ⟨e, he⟩ := Option.isSome_iff_exists.1 hc
    cases ht : ts[0]? with
    | none => rw [ht] at he; cases he
    | some t =>
      rw [ht] at he
      have hu := elT_spec (t := t) he
      refine ⟨_, ?_, by simp only [Rep]; rfl⟩
      simp [builtin, Builtin.len_, ht, Sem.run_bind, run_underlying hu, goInt]
  · rename_i es
    injection h with h
    injection h with hp hd
    subst hp hd
    simp only [RepL, Rep, OwnAt] at hr
    obtain ⟨x, xs, rfl, ⟨A, cap, rfl, _, _, rfl, _⟩, rfl⟩ := hr
    obtain ⟨e, he⟩ := Option.isSome_iff_exists.1 hc
    cases ht : ts[0]? with
    | none => rw [ht] at he; cases he
    | some t =>
      rw [ht] at he
      have hu := elT_spec (t := t) he
      refine ⟨_, ?_, by simp only [Rep]; rfl⟩
      simp [builtin, Builtin.cap_, ht, Sem.run_bind, run_underlying hu, goInt]
  · rename_i kk off n c'
    injection h with h
    injection h with hp hd
    subst hp hd
    simp only [RepL] at hr
    obtain ⟨x, xs, rfl, hrw, rfl⟩ := hr
    obtain ⟨A, rfl, _⟩ := hrw.win_slice
    obtain ⟨e, he⟩ := Option.isSome_iff_exists.1 hc
    cases ht : ts[0]? with
    | none => rw [ht] at he; cases he
    | some t =>
      rw [ht] at he
      have hu := elT_spec (t := t) he
      refine ⟨_, ?_, by simp only [Rep]; rfl⟩
      simp [builtin, Builtin.cap_, ht, Sem.run_bind, run_underlying hu, goInt]
  · cases h
theorem dbuiltin_sound {b : Builtin} {ts : Array TypeId} {ty : TypeId} {cs : Array Bool} {l : List D} {us : List Value} (hr : RepL P w η X l us) {c : Prop} {d : D} (h : dbuiltin P b ts ty cs l = some (c, d)) (hc : c) :
    ∃ v, (builtin b ts ty cs us.toArray).run P w = .ok (.value v) w ∧ Rep P w η X d v := by
  unfold dbuiltin at h
  split at h
  · rename_i vs hv
    have := vals_rep hv hr
    subst this
    split at h
    · rename_i r hp
      injection h with h
      injection h with _ hd
      subst hd
      exact ⟨r, pureRun_run w hp, by simp only [Rep]⟩
    · exact dlen_sound hr h hc
  · exact dlen_sound hr h hc
theorem run_builtin_op (ρ : Operand → Value) (dst : Option Tmp) (b : Builtin) (args : Array Operand) (ats : Array TypeId) (ty : TypeId) (pos : String) (after : Array Edge) (guard : Option (Nat × Bool)) :
    (execOp ρ ⟨dst, .call ⟨.builtin b, args, ats⟩, ty, pos, after, guard⟩).run P w = (builtin b ats ty (args.map isConstB) (args.map ρ)).run P w := by
  unfold execOp
  simp only [resolve, invoke, Sem.run_bind, Sem.run_pure, Result.andThen_ok]
  congr 2
set_option maxHeartbeats 1000000 in
theorem dval_sound (hM : Mem P base S η w) (hf : RepF P w η (Fix P S η) f a) {o : Oper} (hop : opsOk a.tmps.size o.op = true) {c : Prop} {d : D} (h : dval P f S o.type o.op = some (c, d)) (hc : c) :
    ∃ v, (execOp a.eval o).run P w = .ok (.value v) w ∧ Rep P w η (Fix P S η) d v := by
  have hop := opsOk_spec hop
  have rd : ∀ {t : TypeId} {cs : List D} {b off : Nat}, rdOk P t cs off → (∃ vs : List Value, w.rangeAt b 0 vs ∧ RepL P w η (Fix P S η) cs vs ∧ ∀ x ∈ vs, x.oneCell' = true) →
      ∃ v, (Instr.loadAt t (.pointer (some ⟨b, off, none⟩))).run P w = .ok v w ∧ Rep P w η (Fix P S η) (rdVal P t cs off) v := by
    intro t cs b off hok ⟨vs, hr, hl, h1⟩
    obtain ⟨h1', h2⟩ := hok
    obtain ⟨d, i, hu, hi, hsz⟩ := okT_spec h1'
    have hll := hl.length
    cases hg : aggT P t with
    | true =>
      simp only [hg, cond_true] at h2
      have hlen : ((vs.drop off).take (szOf P t)).length = szOf P t := by rw [List.length_take, List.length_drop]; omega
      refine ⟨.agg ((vs.drop off).take (szOf P t)).toArray, run_loadAt_mid w b off t _ d (fun j v hj => ?_) hu (by rw [← aggT_spec hu, hg]) (by rw [hi, hlen, hsz]; rfl), ?_⟩
      · rw [List.getElem?_take] at hj
        split at hj
        · rw [List.getElem?_drop] at hj
          have := hr (off + j) v hj
          rwa [Nat.zero_add] at this
        · cases hj
      · simp only [rdVal, hg, cond_true, Rep]
        exact ⟨_, rfl, (hl.drop off).take _, fun x hx => h1 x (List.mem_of_mem_drop (List.mem_of_mem_take hx))⟩
    | false =>
      simp only [hg, cond_false] at h2
      obtain ⟨x, hx, hrx⟩ := hl.get off (List.getElem?_eq_getElem h2)
      have hcell := hr off x hx
      rw [Nat.zero_add] at hcell
      refine ⟨x, ?_, ?_⟩
      · have hn := aggT_spec hu
        rw [hg] at hn
        have hagg : (isAgg t).run P w = .ok false w := by
          unfold isAgg
          rw [Sem.run_bind, run_underlying hu w]
          cases d <;> simp_all
        simp [Instr.loadAt, Instr.sureAddr, loadVar, Sem.run_bind, hagg, load, Sem.run, hcell]
      · simp only [rdVal, hg, cond_false]
        rw [List.getD_eq_getElem?_getD, List.getElem?_eq_getElem h2]
        exact hrx
  obtain ⟨dst, op, ty, pos, after, guard⟩ := o
  cases op with
  | move x =>
    simp only [dval] at h
    injection h with h; injection h with _ h; subst h
    exact ⟨_, rfl, hf.ev (hop x (by simp [Op.operands]))⟩
  | assign x =>
    simp only [dval] at h
    injection h with h; injection h with _ h; subst h
    exact ⟨_, rfl, hf.ev (hop x (by simp [Op.operands]))⟩
  | pick g x y =>
    simp only [dval] at h
    have h1 := hf.ev (hop g (by simp [Op.operands]))
    have h2 := hf.ev (hop x (by simp [Op.operands]))
    have h3 := hf.ev (hop y (by simp [Op.operands]))
    split at h
    · rename_i t ht
      rw [ht] at h1
      simp only [Rep] at h1
      injection h with h; injection h with _ h; subst h
      refine ⟨bif t then a.eval x else a.eval y, ?_, by cases t; exact h3; exact h2⟩
      unfold execOp
      simp only [h1, asBool]
      cases t <;> rfl
    · cases h
  | load t x =>
    simp only [dval] at h
    have h1 := hf.ev (hop x (by simp [Op.operands]))
    split at h
    · rename_i k off hx
      rw [hx] at h1
      simp only [Rep] at h1
      obtain ⟨b, e1, e2⟩ := h1
      split at h
      · rename_i t' cs hk
        injection h with h; injection h with hp hd; subst hp hd
        obtain ⟨vs, k1, k2, k3⟩ := hM.box k t' cs b hk e1
        obtain ⟨v, hv, hr⟩ := rd (b := b) (off := off) hc ⟨vs, fun j v hj => by rw [Nat.zero_add, cell_of_row w b j _ _ _ k1]; simpa using hj, k2, k3⟩
        refine ⟨v, ?_, hr⟩
        unfold execOp
        simp only [e2, Sem.run_bind, hv, Result.andThen_ok]
        rfl
      · cases h
    · rename_i cs off hx
      rw [hx] at h1
      simp only [Rep] at h1
      obtain ⟨b, p, e1, e2⟩ := h1
      injection h with h; injection h with hp hd; subst hp hd
      obtain ⟨v, hv, hr⟩ := run_load_cells (P := P) hc e2
      refine ⟨v, ?_, hr⟩
      unfold execOp
      simp only [e1, Sem.run_bind, hv, Result.andThen_ok]
      rfl
    · rename_i q hx
      rw [hx] at h1
      simp only [Rep] at h1
      split at h
      · rename_i d' hg
        injection h with h; injection h with hp hd; subst hp hd
        obtain ⟨c1, c2, c3⟩ := hc
        obtain ⟨v, hv, hr⟩ := glob_rep (P := P) (η := η) (X := Fix P S η) hM.glob hg
        rw [← c1] at hv
        clear c1
        refine ⟨v, ?_, hr⟩
        obtain ⟨dd, i, hu, hi, hsz⟩ := okT_spec c2
        have hn := aggT_spec hu
        rw [c3] at hn
        have hagg : (isAgg t).run P w = .ok false w := by
          unfold isAgg
          rw [Sem.run_bind, run_underlying hu w]
          cases dd <;> simp_all
        unfold execOp
        simp [h1, Instr.loadAt, Instr.sureAddr, loadVar, Sem.run_bind, hagg, load, Sem.run, hv]
      · cases h
    · cases h
  | fieldAddr t x i =>
    simp only [dval] at h
    have h1 := hf.ev (hop x (by simp [Op.operands]))
    split at h
    · rename_i fo ft hfl
      split at h
      · rename_i k off hx
        rw [hx] at h1
        simp only [Rep] at h1
        obtain ⟨b, e1, e2⟩ := h1
        injection h with h; injection h with hp hd; subst hp hd
        refine ⟨.pointer (some ⟨b, off + fo, none⟩), ?_, by simp only [Rep]; exact ⟨b, e1, rfl⟩⟩
        unfold execOp
        simp only [e2, Sem.run_bind, run_fieldAt hfl hc, Result.andThen_ok]
        rfl
      · rename_i cs off hx
        rw [hx] at h1
        simp only [Rep] at h1
        obtain ⟨b, p, e1, e2⟩ := h1
        injection h with h; injection h with hp hd; subst hp hd
        refine ⟨.pointer (some ⟨b, p + off + fo, none⟩), ?_, by simp only [Rep]; exact ⟨b, p, by rw [Nat.add_assoc], e2⟩⟩
        unfold execOp
        simp only [e1, Sem.run_bind, run_fieldAt hfl hc, Result.andThen_ok]
        rfl
      · cases h
    · cases h
  | field t x i =>
    simp only [dval] at h
    have h1 := hf.ev (hop x (by simp [Op.operands]))
    split at h
    · rename_i fo ft hfl
      split at h
      · rename_i cs hx
        rw [hx] at h1
        simp only [Rep] at h1
        obtain ⟨vs, e1, e2, e3⟩ := h1
        injection h with h; injection h with hp hd; subst hp hd
        obtain ⟨v, hv, hr⟩ := run_part_cells (P := P) hc e2 e3
        obtain ⟨fs, fd, g1, g2, g3, g4⟩ := fld_spec hfl
        refine ⟨v, ?_, hr⟩
        unfold execOp
        simp [e1, Instr.field, Sem.run_bind, run_underlying g1, g2, asAgg, g3, g4, hv]
      · cases h
    · cases h
  | indexAddr t x ix => exact dval_index hf hop t x ix rfl h hc
  | index t x ix =>
    simp only [dval] at h
    have h1 := hf.ev (hop x (by simp [Op.operands]))
    have h2 := hf.ev (hop ix (by simp [Op.operands]))
    split at h
    · rename_i k i hi
      rw [hi] at h2
      simp only [Rep] at h2
      split at h
      · rename_i cs hx
        rw [hx] at h1
        simp only [Rep] at h1
        obtain ⟨vs, e1, e2, e3⟩ := h1
        split at h
        · rename_i n e he
          injection h with h; injection h with hp hd; subst hp hd
          obtain ⟨k1, k2, k3⟩ := hc
          obtain ⟨v, hv, hr⟩ := run_part_cells (P := P) k3 e2 e3
          have hu := arT_spec he
          obtain ⟨_, ti, _, h8, h9⟩ := okT_spec k3.1
          rw [h9] at hv
          refine ⟨v, ?_, hr⟩
          unfold execOp
          simp [e1, h2, Instr.index, Sem.run_bind, asIntOf, run_underlying hu, k1, k2, sizeOf, typeInfo, h8, hv]
        · cases h
      · rename_i s hx
        rw [hx] at h1
        simp only [Rep] at h1
        injection h with h; injection h with hp hd; subst hp hd
        obtain ⟨k1, k2, k3⟩ := hc
        have hu := strT_spec k1
        have hlt : i.toNat < s.size := by omega
        have hlt' : i.toNat < s.data.size := hlt
        refine ⟨_, ?_, by simp only [Rep]; rfl⟩
        unfold execOp
        simp [h1, h2, Instr.index, Sem.run_bind, asIntOf, run_underlying hu, k2, hlt]
        rfl
      · cases h
    · cases h
  | extract x i =>
    simp only [dval] at h
    have h1 := hf.ev (hop x (by simp [Op.operands]))
    split at h
    · rename_i ds hx
      rw [hx] at h1
      simp only [Rep] at h1
      obtain ⟨vs, e1, e2⟩ := h1
      injection h with h; injection h with hp hd; subst hp hd
      have hl := e2.length
      obtain ⟨v, hv, hr⟩ := e2.get i (List.getElem?_eq_getElem hc)
      have hlt : i < vs.length := by omega
      rw [List.getElem?_eq_getElem hlt] at hv
      injection hv with hv
      refine ⟨v, ?_, ?_⟩
      · unfold execOp
        simp [e1, Instr.extract, List.getElem?_eq_getElem hlt, hv]
      · rw [List.getD_eq_getElem?_getD, List.getElem?_eq_getElem hc]
        exact hr
    · cases h
  | makeFunc fn fs cs =>
    simp only [dval] at h
    injection h with h; injection h with _ hd; subst hd
    refine ⟨.func fn (fs.toList.map a.eval).toArray (cs.toList.map a.eval).toArray, ?_, ?_⟩
    · unfold execOp
      simp [Instr.makeFunc]
      exact ⟨by apply Array.ext'; simp, by apply Array.ext'; simp⟩
    · simp only [Rep]
      exact ⟨_, _, rfl, repL_map hf fun x hx => hop x (by simp only [Op.operands, Array.mem_append]; exact .inl (by simpa using hx)), repL_map hf fun x hx => hop x (by simp only [Op.operands, Array.mem_append]; exact .inr (by simpa using hx))⟩
  | makeInterface t x =>
    simp only [dval] at h
    injection h with h; injection h with hp hd; subst hp hd
    obtain ⟨k1, k2⟩ := hc
    obtain ⟨d', hu⟩ := Option.isSome_iff_exists.1 k1
    refine ⟨.iface t (a.eval x), ?_, by simp only [Rep]; exact ⟨_, rfl, hf.ev (hop x (by simp [Op.operands]))⟩⟩
    unfold execOp
    unfold ifaceT at k2
    rw [hu] at k2
    cases d' <;> first | (simp [Instr.makeInterface, Sem.run_bind, run_underlying hu]; done) | cases k2
  | nilCheck x =>
    simp only [dval] at h
    have h1 := hf.ev (hop x (by simp [Op.operands]))
    split at h
    · rename_i k off hx
      rw [hx] at h1
      injection h with h; injection h with _ hd; subst hd
      refine ⟨a.eval x, ?_, h1⟩
      simp only [Rep] at h1
      obtain ⟨b, e1, e2⟩ := h1
      unfold execOp
      simp [e2]
    · rename_i cs off hx
      rw [hx] at h1
      injection h with h; injection h with _ hd; subst hd
      refine ⟨a.eval x, ?_, h1⟩
      simp only [Rep] at h1
      obtain ⟨b, p, e1, e2⟩ := h1
      unfold execOp
      simp [e1]
    · rename_i g fs cs hx
      rw [hx] at h1
      injection h with h; injection h with _ hd; subst hd
      refine ⟨a.eval x, ?_, h1⟩
      simp only [Rep] at h1
      obtain ⟨us, vs, e1, e2, e3⟩ := h1
      unfold execOp
      simp [e1]
    · cases h
  | slice t x lo hi mx =>
    cases mx with
    | none => exact dval_slice hf hop t x lo hi rfl h hc
    | some mx => exact dval_slice3 hf hop t x lo hi mx rfl h hc
  | binOp op t x y yt =>
    simp only [dval] at h
    obtain ⟨r, hr, hR⟩ := dbin_sound (fun k hk => by rw [hk]; rfl) (hf.ev (hop x (by simp [Op.operands]))) (hf.ev (hop y (by simp [Op.operands]))) h hc
    refine ⟨r, ?_, hR⟩
    unfold execOp
    simp only
    rw [Sem.run_bind, hr]
    rfl
  | unOp op t x =>
    simp only [dval] at h
    have h1 := hf.ev (hop x (by simp [Op.operands]))
    split at h
    · rename_i u hx
      rw [hx] at h1
      simp only [Rep] at h1
      obtain ⟨r, hr, he⟩ := map_some_eq h
      injection he with _ he
      subst he
      refine ⟨r, ?_, by simp only [Rep]⟩
      unfold execOp
      simp only [h1]
      rw [Sem.run_bind, pureRun_run w hr]
      rfl
    · cases h
  | convert s t x =>
    simp only [dval] at h
    have h1 := hf.ev (hop x (by simp [Op.operands]))
    split at h
    · rename_i u hx
      rw [hx] at h1
      simp only [Rep] at h1
      obtain ⟨r, hr, he⟩ := map_some_eq h
      injection he with _ he
      subst he
      refine ⟨r, ?_, by simp only [Rep]⟩
      unfold execOp
      simp only [h1]
      rw [Sem.run_bind, pureRun_run w hr]
      rfl
    · rename_i own es hx
      rw [hx] at h1
      split at h
      · rename_i e he
        injection h with h
        injection h with hc' hd
        subst hc' hd
        obtain ⟨k1, k2, k3⟩ := hc
        simp only [Rep] at h1
        obtain ⟨A, c, h1, hle, _, _, hE⟩ := h1
        have hlen : es.length = (bytesD es).length := by simp [bytesD]
        have hrd : Reads w w.heap.size 1 A es.length ((bytesD es).map bv) := by
          refine ⟨by rw [List.length_map, ← hlen, Nat.mul_one], fun hp => ?_⟩
          obtain ⟨b, o, z, hA, _, hz⟩ := hE hp
          rw [k3] at hz
          refine ⟨b, o, hA, ?_, fun j u hj => ?_⟩
          · have hp' : 0 < (bytesD es).length := by omega
            have := hz.bytes (List.getElem?_eq_getElem hp')
            exact World.block_lt_of_cell? w _ this
          · rw [List.getElem?_map] at hj
            obtain ⟨u', hu', rfl⟩ := Option.map_eq_some_iff.1 hj
            exact hz.bytes hu'
        refine ⟨.string ⟨(bytesD es).toArray⟩, ?_, by simp only [Rep]⟩
        unfold execOp
        simp only [h1]
        rw [Sem.run_bind, run_string_of_bytes s t e (elT_spec he) (u8T_spec k1) (strT_spec k2) hrd]
        rfl
      · cases h
    · cases h
  | call cl =>
    obtain ⟨callee, args, ats⟩ := cl
    cases callee with
    | builtin b =>
      simp only [dval] at h
      have hr := repL_map hf (l := args.toList) fun x hx => hop x (by simp only [Op.operands, Call.operands, Array.mem_append]; exact .inr (by simpa using hx))
      obtain ⟨v, hv, hR⟩ := dbuiltin_sound hr h hc
      refine ⟨v, ?_, hR⟩
      have e : (args.toList.map a.eval).toArray = args.map a.eval := by apply Array.ext'; simp
      rw [e] at hv
      rw [run_builtin_op]
      exact hv
    | value x => simp [dval] at h
    | invoke r m => simp [dval] at h
  | _ => simp [dval] at h
end
end Go.Proofs.YtonncfminojejaaGreatDoor

namespace Go.Proofs.YtonncfminojejaaGreatDoor
open Go.RowKit

def St.add (S : St) (o : Ob) : St := ⟨S.next + 1, fun k => if k = S.next then some o else S.ob k⟩
def St.set (S : St) (k : Nat) (o : Ob) : St := ⟨S.next, fun j => if j = k then some o else S.ob j⟩
def St.drop (S : St) (g : Nat) : St := ⟨S.next, fun k => if k = g then none else S.ob k⟩
def St.leave (S : St) : Own → St
  | .row g => S.drop g
  | _ => S
def St.grow (S : St) (o : Own) (e : TypeId) (n : Nat) : St := (S.leave o).add (.row e n)

def isLoopO : Obj → Bool
  | .loop _ => true
  | .deferred _ => true
  | _ => false
def Loops (w w' : World) : Prop := ∀ (k : Nat) (o : Obj), w.heap[k]? = some o → isLoopO o = true → w'.heap[k]? = some o
theorem Loops.refl (w : World) : Loops w w := fun _ _ h _ => h
theorem Loops.trans {A B C : World} (h : Loops A B) (k : Loops B C) : Loops A C := fun i o hi ho => k i o (h i o hi ho) ho
theorem Loops.alloc (w : World) (x : Obj) : Loops w (w.alloc x) := fun k _ hk _ => (Below.heap_alloc w x k (Array.getElem?_eq_some_iff.1 hk).1).trans hk
theorem Loops.setRow {w : World} {b : Nat} {old : Array Value} {t : TypeId} {fr : Nat × Nat} (h : w.heap[b]? = some (.cells old t fr)) (cs : Array Value) : Loops w (w.setRow b cs) := fun k o hk ho => by
  have hne : k ≠ b := fun e => by subst e; rw [h] at hk; injection hk with hk; subst hk; cases ho
  rw [setRow_other w b k _ hne]; exact hk
structure Goes (P : Program) (base : Nat) (S : St) (η : Names) (w : World) (S' : St) (η' : Names) (w' : World) : Prop where
  mem : Mem P base S' η' w'
  keep : Keep (fun _ => True) w η (Fix P S η) w' η' (Fix P S' η')
  below : Below base w w'
  drawn : mo = true → w.drawn ≤ w'.drawn
  loops : Loops w w'

section
variable {P : Program} {base : Nat} {S : St} {η : Names} {w : World}
theorem Keep.refl (N : Nat → Prop) (w : World) (η : Names) (X : Nat → Nat → Prop) : Keep N w η X w η X := ⟨Nat.le_refl _, fun _ _ _ h => ⟨h, rfl⟩, fun _ _ _ h => h, fun _ cur _ h => ⟨cur, h, rfl⟩⟩
theorem Keep.trans {N : Nat → Prop} {w w1 w2 : World} {η η1 η2 : Names} {X X1 X2 : Nat → Nat → Prop} (h : Keep N w η X w1 η1 X1) (k : Keep N w1 η1 X1 w2 η2 X2) : Keep N w η X w2 η2 X2 :=
  ⟨Nat.le_trans h.size k.size, fun b i hb hx => ⟨(k.fix b i (Nat.lt_of_lt_of_le hb h.size) (h.fix b i hb hx).1).1, ((k.fix b i (Nat.lt_of_lt_of_le hb h.size) (h.fix b i hb hx).1).2).trans (h.fix b i hb hx).2⟩,
    fun q b hn hq => k.eta q b hn (h.eta q b hn hq), fun b cur e hc => by
      obtain ⟨c1, h1, h2⟩ := h.shp b cur e hc
      obtain ⟨c2, h3, h4⟩ := k.shp b c1 e h1
      exact ⟨c2, h3, h4.trans h2⟩⟩
theorem Goes.refl (h : Mem P base S η w) : Goes P base S η w S η w := ⟨h, Keep.refl _ _ _ _, Below.refl _ _, fun _ => Nat.le_refl _, Loops.refl _⟩
theorem Goes.trans {S1 S2 : St} {η1 η2 : Names} {w1 w2 : World} (h : Goes P base S η w S1 η1 w1) (k : Goes P base S1 η1 w1 S2 η2 w2) : Goes P base S η w S2 η2 w2 := ⟨k.mem, h.keep.trans k.keep, h.below.trans k.below, fun hm => Nat.le_trans (h.drawn hm) (k.drawn hm), h.loops.trans k.loops⟩
theorem Goes.rep {S' : St} {η' : Names} {w' : World} (h : Goes P base S η w S' η' w') {d : D} {v : Value} (hr : Rep P w η (Fix P S η) d v) : Rep P w' η' (Fix P S' η') d v := Rep.keep h.keep (D.all_true d) hr
theorem Goes.repL {S' : St} {η' : Names} {w' : World} (h : Goes P base S η w S' η' w') {d : List D} {v : List Value} (hr : RepL P w η (Fix P S η) d v) : RepL P w' η' (Fix P S' η') d v := RepL.keep h.keep (allL_true d) hr
theorem Goes.repF {S' : St} {η' : Names} {w' : World} (h : Goes P base S η w S' η' w') {f : Fm} {a : Act} (hr : RepF P w η (Fix P S η) f a) : RepF P w' η' (Fix P S' η') f a := fun t ht => h.rep (hr t ht)

theorem goes_drew (h : Mem P base S η w) : Goes P base S η w S η w.drew := by
  have K : Keep (fun _ => True) w η (Fix P S η) w.drew η (Fix P S η) := ⟨Nat.le_refl _, fun _ _ _ hx => ⟨hx, rfl⟩, fun _ _ _ hx => hx, fun _ cur _ hx => ⟨cur, hx, rfl⟩⟩
  refine ⟨⟨h.base_, h.dead, h.fresh, h.live, h.inj, h.in_, fun k t cs b h1 h2 => ?_, h.row, h.glob.below (Below.refl _ _).drew⟩, K, (Below.refl _ _).drew, fun _ => Nat.le_succ _, fun _ _ h _ => h⟩
  obtain ⟨vs, k1, k2, k3⟩ := h.box k t cs b h1 h2
  exact ⟨vs, k1, RepL.keep K (allL_true _) k2, k3⟩
theorem goes_new (h : Mem P base S η w) (o : Obj) : Goes P base S η w S η (w.alloc o) := by
  have K : Keep (fun _ => True) w η (Fix P S η) (w.alloc o) η (Fix P S η) := ⟨by simp, fun b i hb hx => ⟨hx, World.cell?_alloc_lt w o _ hb⟩, fun _ _ _ hx => hx, fun b cur _ hx => ⟨cur, by rw [Below.heap_alloc w o b ((Array.getElem?_eq_some_iff.1 hx).1)]; exact hx, rfl⟩⟩
  have hlt : ∀ k b, η k = some (some b) → (w.alloc o).heap[b]? = w.heap[b]? := fun k b hk => Below.heap_alloc w o b (h.in_ k b hk).2
  refine ⟨⟨by simp; have := h.base_; omega, h.dead, h.fresh, h.live, h.inj, fun k b hk => ⟨(h.in_ k b hk).1, by simp; have := (h.in_ k b hk).2; omega⟩, fun k t cs b h1 h2 => ?_, fun k e n b h1 h2 => ?_, h.glob.below ((Below.refl _ _).alloc h.base_ o)⟩, K, (Below.refl _ _).alloc h.base_ o, fun _ => Nat.le_refl _, Loops.alloc _ _⟩
  · obtain ⟨vs, k1, k2, k3⟩ := h.box k t cs b h1 h2
    exact ⟨vs, (hlt k b h2).trans k1, RepL.keep K (allL_true _) k2, k3⟩
  · obtain ⟨cur, k1, k2⟩ := h.row k e n b h1 h2
    exact ⟨cur, (hlt k b h2).trans k1, k2⟩
def Names.add (η : Names) (k : Nat) (b : Option Nat) : Names := fun j => if j = k then some b else η j
theorem goes_name (h : Mem P base S η w) (o : Ob) (cur : Array Value) (t : TypeId)
    (ho : (∃ cs vs, o = .box t cs ∧ cur = (vs : List Value).toArray ∧ RepL P w η (Fix P S η) cs vs ∧ ∀ x ∈ vs, x.oneCell' = true) ∨ ∃ n, o = .row t n ∧ n * szOf P t ≤ cur.size) :
    Goes P base S η w (S.add o) (η.add S.next (some w.heap.size)) (w.alloc (.cells cur t)) := by
  have hd := h.dead S.next (Nat.le_refl _)
  have hold : ∀ k b, η k = some b → k ≠ S.next := fun k b hk e => by subst e; rw [hd] at hk; cases hk
  have K : Keep (fun _ => True) w η (Fix P S η) (w.alloc (.cells cur t)) (η.add S.next (some w.heap.size)) (Fix P (S.add o) (η.add S.next (some w.heap.size))) := by
    refine ⟨by simp, fun b i hb hx => ⟨fun k o' hk hk' => ?_, World.cell?_alloc_lt w _ _ hb⟩, fun k b _ hk => ?_, fun b c _ hx => ⟨c, by rw [Below.heap_alloc w _ b ((Array.getElem?_eq_some_iff.1 hx).1)]; exact hx, rfl⟩⟩
    · simp only [Names.add, St.add] at hk hk'
      by_cases e : k = S.next
      · rw [if_pos e] at hk; injection hk with hk; injection hk with hk; omega
      · rw [if_neg e] at hk hk'
        exact hx k o' hk hk'
    · simp only [Names.add]; rw [if_neg (hold k b hk)]; exact hk
  have hlt : ∀ k b, η k = some (some b) → (w.alloc (.cells cur t)).heap[b]? = w.heap[b]? := fun k b hk => Below.heap_alloc w _ b (h.in_ k b hk).2
  refine ⟨⟨by simp; have := h.base_; omega, fun k hk => ?_, fun k hk => ?_, fun k t' cs hk => ?_, fun k k' b h1 h2 h3 h4 => ?_, fun k b hk => ?_, fun k t' cs b h1 h2 => ?_, fun k e n b h1 h2 => ?_, h.glob.below ((Below.refl _ _).alloc h.base_ _)⟩, K, (Below.refl _ _).alloc h.base_ _, fun _ => Nat.le_refl _, Loops.alloc _ _⟩
  · have hk' : S.next + 1 ≤ k := hk
    simp only [Names.add]; rw [if_neg (by omega)]; exact h.dead k (by omega)
  · have hk' : S.next + 1 ≤ k := hk
    simp only [St.add]; rw [if_neg (by omega)]; exact h.fresh k (by omega)
  · simp only [Names.add]
    by_cases e : k = S.next
    · exact ⟨_, if_pos e⟩
    · simp only [St.add] at hk
      rw [if_neg e] at hk ⊢
      exact h.live k t' cs hk
  · simp only [Names.add, St.add] at h1 h2 h3 h4
    by_cases e : k = S.next <;> by_cases e' : k' = S.next
    · omega
    · rw [if_pos e] at h1; rw [if_neg e'] at h2
      injection h1 with h1
      injection h1 with h1
      have := (h.in_ k' b h2).2
      omega
    · rw [if_neg e] at h1; rw [if_pos e'] at h2
      injection h2 with h2
      injection h2 with h2
      have := (h.in_ k b h1).2
      omega
    · rw [if_neg e] at h1 h3; rw [if_neg e'] at h2 h4
      exact h.inj k k' b h1 h2 h3 h4
  · simp only [Names.add] at hk
    by_cases e : k = S.next
    · rw [if_pos e] at hk; injection hk with hk; injection hk with hk; subst hk; exact ⟨h.base_, by simp⟩
    · rw [if_neg e] at hk
      exact ⟨(h.in_ k b hk).1, by simp; have := (h.in_ k b hk).2; omega⟩
  · simp only [Names.add, St.add] at h1 h2
    by_cases e : k = S.next
    · rw [if_pos e] at h1 h2
      injection h1 with h1; injection h2 with h2; injection h2 with h2
      subst h1 h2
      rcases ho with ⟨cs', vs, ho, rfl, hr, h5⟩ | ⟨n, ho, _⟩
      · injection ho with ho1 ho2
        subst ho1 ho2
        exact ⟨vs, heap_alloc_new w _, RepL.keep K (allL_true _) hr, h5⟩
      · cases ho
    · rw [if_neg e] at h1 h2
      obtain ⟨vs, k1, k2, k3⟩ := h.box k t' cs b h1 h2
      exact ⟨vs, (hlt k b h2).trans k1, RepL.keep K (allL_true _) k2, k3⟩
  · simp only [Names.add, St.add] at h1 h2
    by_cases e' : k = S.next
    · rw [if_pos e'] at h1 h2
      injection h1 with h1; injection h2 with h2; injection h2 with h2
      subst h1 h2
      rcases ho with ⟨cs', vs, ho, _⟩ | ⟨n', ho, hn⟩
      · cases ho
      · injection ho with ho1 ho2
        subst ho1 ho2
        exact ⟨cur, heap_alloc_new w _, hn⟩
    · rw [if_neg e'] at h1 h2
      obtain ⟨c, k1, k2⟩ := h.row k e n b h1 h2
      exact ⟨c, (hlt k b h2).trans k1, k2⟩
theorem goes_set (h : Mem P base S η w) {k b : Nat} {t : TypeId} {cs cs' : List D} {vs' : List Value} (hk : S.ob k = some (.box t cs)) (hb : η k = some (some b)) (hl : cs'.length = cs.length) (hr : RepL P w η (Fix P S η) cs' vs') (h1 : ∀ x ∈ vs', x.oneCell' = true) :
    Goes P base S η w (S.set k (.box t cs')) η (w.setRow b vs'.toArray) := by
  obtain ⟨vs, g1, g2, g3⟩ := h.box k t cs b hk hb
  have hsz : vs'.toArray.size = vs.toArray.size := by simp [hr.length, g2.length, hl]
  have K : Keep (fun _ => True) w η (Fix P S η) (w.setRow b vs'.toArray) η (Fix P (S.set k (.box t cs')) η) := by
    refine ⟨by simp, fun q i hq hx => ?_, fun _ _ _ hx => hx, fun q c e hx => ?_⟩
    · have hne : q ≠ b := fun e => by subst e; exact hx k _ hb hk
      refine ⟨fun j o hj hj' => ?_, cell_setRow_other w b _ _ hne⟩
      simp only [St.set] at hj'
      by_cases e : j = k
      · subst e; rw [hj] at hb; injection hb with hb; injection hb with hb; exact absurd hb hne
      · rw [if_neg e] at hj'; exact hx j o hj hj'
    · by_cases e' : q = b
      · subst e'
        rw [g1] at hx
        injection hx with hx
        injection hx with hx1 hx2
        subst hx1 hx2
        exact ⟨_, setRow_heap w q _ _ t _ g1, hsz⟩
      · exact ⟨c, by rw [setRow_other w b q _ e']; exact hx, rfl⟩
  have hlive : (S.ob k).isSome = true := by rw [hk]; rfl
  refine ⟨⟨by simpa using h.base_, h.dead, fun j hj => ?_, fun j t' c' hj => ?_, fun j j' q h1 h2 h3 h4 => ?_, fun j q hj => by simpa using h.in_ j q hj, fun j t' c' q hj hj' => ?_, fun j e n q hj hj' => ?_, h.glob.below (below_setRow (Below.refl _ _) (h.in_ k b hb).1 _)⟩, K, below_setRow (Below.refl _ _) (h.in_ k b hb).1 _, fun _ => Nat.le_refl _, Loops.setRow g1 _⟩
  · have hj' : S.next ≤ j := hj
    have : j ≠ k := fun e => by subst e; rw [h.fresh j hj'] at hk; cases hk
    simp only [St.set]; rw [if_neg this]; exact h.fresh j hj'
  · simp only [St.set] at hj
    by_cases e : j = k
    · subst e; exact ⟨b, hb⟩
    · rw [if_neg e] at hj; exact h.live j t' c' hj
  · have live : ∀ i, ((S.set k (.box t cs')).ob i).isSome = true → (S.ob i).isSome = true := fun i hi => by
      simp only [St.set] at hi
      by_cases e : i = k
      · subst e; exact hlive
      · rwa [if_neg e] at hi
    exact h.inj j j' q h1 h2 (live j h3) (live j' h4)
  · simp only [St.set] at hj
    by_cases e : j = k
    · subst e
      rw [if_pos rfl] at hj
      injection hj with hj
      injection hj with hj1 hj2
      subst hj1 hj2
      rw [hb] at hj'
      injection hj' with hj'
      injection hj' with hj'
      subst hj'
      exact ⟨vs', setRow_heap w b _ _ t _ g1, RepL.keep K (allL_true _) hr, h1⟩
    · rw [if_neg e] at hj
      obtain ⟨us, k1, k2, k3⟩ := h.box j t' c' q hj hj'
      have hne : q ≠ b := fun e' => by subst e'; exact e (h.inj j k q hj' hb (by rw [hj]; rfl) hlive)
      exact ⟨us, by rw [setRow_other w b q _ hne]; exact k1, RepL.keep K (allL_true _) k2, k3⟩
  · simp only [St.set] at hj
    by_cases e' : j = k
    · subst e'; rw [if_pos rfl] at hj; cases hj
    · rw [if_neg e'] at hj
      obtain ⟨c, k1, k2⟩ := h.row j e n q hj hj'
      have hne : q ≠ b := fun e'' => by subst e''; exact e' (h.inj j k q hj' hb (by rw [hj]; rfl) hlive)
      exact ⟨c, by rw [setRow_other w b q _ hne]; exact k1, k2⟩
theorem goes_drop (h : Mem P base S η w) (g : Nat) : Goes P base S η w (S.drop g) η w := by
  have sub : ∀ k o, (S.drop g).ob k = some o → S.ob k = some o := fun k o hk => by
    simp only [St.drop] at hk
    by_cases e : k = g
    · rw [if_pos e] at hk; cases hk
    · rwa [if_neg e] at hk
  have subS : ∀ k, ((S.drop g).ob k).isSome = true → (S.ob k).isSome = true := fun k hk => by
    obtain ⟨o, ho⟩ := Option.isSome_iff_exists.1 hk
    rw [sub k o ho]; rfl
  have K : Keep (fun _ => True) w η (Fix P S η) w η (Fix P (S.drop g) η) := ⟨Nat.le_refl _, fun b i _ hx => ⟨fun k o hk hk' => hx k o hk (sub k o hk'), rfl⟩, fun _ _ _ hx => hx, fun _ c _ hx => ⟨c, hx, rfl⟩⟩
  refine ⟨⟨h.base_, h.dead, fun k hk => ?_, fun k t cs hk => h.live k t cs (sub _ _ hk), fun k k' b h1 h2 h3 h4 => h.inj k k' b h1 h2 (subS k h3) (subS k' h4), h.in_, fun k t cs b h1 h2 => ?_, fun k e n b h1 h2 => h.row k e n b (sub _ _ h1) h2, h.glob⟩, K, Below.refl _ _, fun _ => Nat.le_refl _, Loops.refl _⟩
  · have := h.fresh k hk
    simp only [St.drop]
    rw [this]; split <;> rfl
  · obtain ⟨vs, k1, k2, k3⟩ := h.box k t cs b (sub _ _ h1) h2
    exact ⟨vs, k1, RepL.keep K (allL_true _) k2, k3⟩
theorem goes_leave (h : Mem P base S η w) (o : Own) : Goes P base S η w (S.leave o) η w := by
  cases o with
  | row g => exact goes_drop h g
  | no => exact Goes.refl h
  | full => exact Goes.refl h
theorem goes_bare (h : Mem P base S η w) (e : TypeId) (n : Nat) : Goes P base S η w (S.add (.row e n)) (η.add S.next none) w := by
  have hd := h.dead S.next (Nat.le_refl _)
  have hold : ∀ k b, η k = some b → k ≠ S.next := fun k b hk e => by subst e; rw [hd] at hk; cases hk
  have old : ∀ k b, (η.add S.next none) k = some (some b) → k ≠ S.next ∧ η k = some (some b) := fun k b hk => by
    simp only [Names.add] at hk
    by_cases e' : k = S.next
    · rw [if_pos e'] at hk; injection hk with hk; cases hk
    · rw [if_neg e'] at hk; exact ⟨e', hk⟩
  have sub : ∀ k o, k ≠ S.next → (S.add (.row e n)).ob k = some o → S.ob k = some o := fun k o hk hk' => by
    simp only [St.add] at hk'
    rwa [if_neg hk] at hk'
  have subS : ∀ k, k ≠ S.next → ((S.add (.row e n)).ob k).isSome = true → (S.ob k).isSome = true := fun k hk hk' => by
    obtain ⟨o, ho⟩ := Option.isSome_iff_exists.1 hk'
    rw [sub k o hk ho]; rfl
  have K : Keep (fun _ => True) w η (Fix P S η) w (η.add S.next none) (Fix P (S.add (.row e n)) (η.add S.next none)) :=
    ⟨Nat.le_refl _, fun b i _ hx => ⟨fun k o hk hk' => hx k o (old k b hk).2 (sub k o (old k b hk).1 hk'), rfl⟩, fun k b _ hk => by simp only [Names.add]; rw [if_neg (hold k b hk)]; exact hk, fun _ c _ hx => ⟨c, hx, rfl⟩⟩
  refine ⟨⟨h.base_, fun k hk => ?_, fun k hk => ?_, fun k t cs hk => ?_, fun k k' b h1 h2 h3 h4 => h.inj k k' b (old k b h1).2 (old k' b h2).2 (subS k (old k b h1).1 h3) (subS k' (old k' b h2).1 h4), fun k b hk => h.in_ k b (old k b hk).2, fun k t cs b h1 h2 => ?_, fun k e n b h1 h2 => h.row k e n b (sub _ _ (old k b h2).1 h1) (old k b h2).2, h.glob⟩, K, Below.refl _ _, fun _ => Nat.le_refl _, Loops.refl _⟩
  · have hk' : S.next + 1 ≤ k := hk
    simp only [Names.add]; rw [if_neg (by omega)]; exact h.dead k (by omega)
  · have hk' : S.next + 1 ≤ k := hk
    simp only [St.add]; rw [if_neg (by omega)]; exact h.fresh k (by omega)
  · by_cases e' : k = S.next
    · simp only [St.add] at hk; rw [if_pos e'] at hk; cases hk
    · obtain ⟨b, hb⟩ := h.live k t cs (sub k _ e' hk)
      exact ⟨b, by simp only [Names.add]; rw [if_neg e']; exact hb⟩
  · obtain ⟨vs, k1, k2, k3⟩ := h.box k t cs b (sub _ _ (old k b h2).1 h1) (old k b h2).2
    exact ⟨vs, k1, RepL.keep K (allL_true _) k2, k3⟩
theorem grow_ob (S : St) (g : Nat) (e : TypeId) (n k : Nat) : (S.grow (.row g) e n).ob k = if k = S.next then some (.row e n) else if k = g then none else S.ob k := rfl
theorem goes_room (h : Mem P base S η w) {g b n n' : Nat} {e : TypeId} {cur cur' : Array Value} (hg : S.ob g = some (.row e n)) (hb : η g = some (some b)) (hc : w.heap[b]? = some (.cells cur e (0, 0))) (hs : cur'.size = cur.size)
    (hsame : ∀ j, j < n * szOf P e → cur'[j]? = cur[j]?) (hn : n ≤ n') (hn' : n' * szOf P e ≤ cur.size) :
    Goes P base S η w (S.grow (.row g) e n') (η.add S.next (some b)) (w.setRow b cur') := by
  have hd := h.dead S.next (Nat.le_refl _)
  have hold : ∀ k c, η k = some c → k ≠ S.next := fun k c hk e => by subst e; rw [hd] at hk; cases hk
  have hlive : (S.ob g).isSome = true := by rw [hg]; rfl
  have sub : ∀ k o, k ≠ S.next → (S.grow (.row g) e n').ob k = some o → S.ob k = some o ∧ k ≠ g := fun k o hk hk' => by
    rw [grow_ob] at hk'
    rw [if_neg hk] at hk'
    by_cases e' : k = g
    · rw [if_pos e'] at hk'; cases hk'
    · rw [if_neg e'] at hk'; exact ⟨hk', e'⟩
  have subS : ∀ k, k ≠ S.next → ((S.grow (.row g) e n').ob k).isSome = true → (S.ob k).isSome = true ∧ k ≠ g := fun k hk hk' => by
    obtain ⟨o, ho⟩ := Option.isSome_iff_exists.1 hk'
    obtain ⟨h1, h2⟩ := sub k o hk ho
    exact ⟨by rw [h1]; rfl, h2⟩
  have at_ : (S.grow (.row g) e n').ob S.next = some (.row e n') := by rw [grow_ob, if_pos rfl]
  have K : Keep (fun _ => True) w η (Fix P S η) (w.setRow b cur') (η.add S.next (some b)) (Fix P (S.grow (.row g) e n') (η.add S.next (some b))) := by
    refine ⟨by simp, fun q i hq hx => ?_, fun k c _ hk => ?_, fun q c e' hx => ?_⟩
    · refine ⟨fun k o hk hk' => ?_, ?_⟩
      · by_cases e' : k = S.next
        · subst e'
          rw [at_] at hk'
          injection hk' with hk'
          subst hk'
          simp only [Names.add, ↓reduceIte] at hk
          injection hk with hk
          injection hk with hk
          subst hk
          have := hx g _ hb hg
          exact Nat.lt_of_lt_of_le this (Nat.mul_le_mul_right _ hn)
        · simp only [Names.add] at hk
          rw [if_neg e'] at hk
          exact hx k o hk (sub k o e' hk').1
      · by_cases e' : q = b
        · subst e'
          have := hx g _ hb hg
          rw [cell_setRow_same w q i _ _ e _ hc, cell_of_row w q i cur e (0, 0) hc]
          exact hsame i this
        · exact cell_setRow_other w b _ _ e'
    · simp only [Names.add]; rw [if_neg (hold k c hk)]; exact hk
    · by_cases e'' : q = b
      · subst e''
        rw [hc] at hx
        injection hx with hx
        injection hx with hx1 hx2
        subst hx1 hx2
        exact ⟨cur', setRow_heap w q _ _ e _ hc, hs⟩
      · exact ⟨c, by rw [setRow_other w b q _ e'']; exact hx, rfl⟩
  refine ⟨⟨by simpa using h.base_, fun k hk => ?_, fun k hk => ?_, fun k t cs hk => ?_, fun k k' q h1 h2 h3 h4 => ?_, fun k q hk => ?_, fun k t cs q h1 h2 => ?_, fun k e' m q h1 h2 => ?_, h.glob.below (below_setRow (Below.refl _ _) (h.in_ g b hb).1 _)⟩, K, below_setRow (Below.refl _ _) (h.in_ g b hb).1 _, fun _ => Nat.le_refl _, Loops.setRow hc _⟩
  · have hk' : S.next + 1 ≤ k := hk
    simp only [Names.add]; rw [if_neg (by omega)]; exact h.dead k (by omega)
  · have hk' : S.next + 1 ≤ k := hk
    rw [grow_ob, if_neg (by omega)]
    rw [h.fresh k (by omega)]; split <;> rfl
  · by_cases e' : k = S.next
    · subst e'; rw [at_] at hk; cases hk
    · obtain ⟨c, hc'⟩ := h.live k t cs (sub k _ e' hk).1
      exact ⟨c, by simp only [Names.add]; rw [if_neg e']; exact hc'⟩
  · simp only [Names.add] at h1 h2
    by_cases e' : k = S.next <;> by_cases e'' : k' = S.next
    · omega
    · rw [if_pos e'] at h1; rw [if_neg e''] at h2
      injection h1 with h1
      injection h1 with h1
      subst h1
      have := subS k' e'' h4
      exact absurd (h.inj k' g b h2 hb this.1 hlive) this.2
    · rw [if_neg e'] at h1; rw [if_pos e''] at h2
      injection h2 with h2
      injection h2 with h2
      subst h2
      have := subS k e' h3
      exact absurd (h.inj k g b h1 hb this.1 hlive) this.2
    · rw [if_neg e'] at h1; rw [if_neg e''] at h2
      exact h.inj k k' q h1 h2 (subS k e' h3).1 (subS k' e'' h4).1
  · simp only [Names.add] at hk
    by_cases e' : k = S.next
    · rw [if_pos e'] at hk; injection hk with hk; injection hk with hk; subst hk; simpa using h.in_ g b hb
    · rw [if_neg e'] at hk; simpa using h.in_ k q hk
  · by_cases e' : k = S.next
    · subst e'; rw [at_] at h1; cases h1
    · simp only [Names.add] at h2
      rw [if_neg e'] at h2
      obtain ⟨s1, s2⟩ := sub k _ e' h1
      obtain ⟨vs, k1, k2, k3⟩ := h.box k t cs q s1 h2
      have hne : q ≠ b := fun e'' => by subst e''; exact s2 (h.inj k g q h2 hb (by rw [s1]; rfl) hlive)
      exact ⟨vs, by rw [setRow_other w b q _ hne]; exact k1, RepL.keep K (allL_true _) k2, k3⟩
  · by_cases e'' : k = S.next
    · subst e''
      rw [at_] at h1
      injection h1 with h1
      injection h1 with h1a h1b
      subst h1a h1b
      simp only [Names.add, ↓reduceIte] at h2
      injection h2 with h2
      injection h2 with h2
      subst h2
      exact ⟨cur', setRow_heap w b _ _ e _ hc, by rw [hs]; exact hn'⟩
    · simp only [Names.add] at h2
      rw [if_neg e''] at h2
      obtain ⟨s1, s2⟩ := sub k _ e'' h1
      obtain ⟨c, k1, k2⟩ := h.row k e' m q s1 h2
      have hne : q ≠ b := fun e3 => by subst e3; exact s2 (h.inj k g q h2 hb (by rw [s1]; rfl) hlive)
      exact ⟨c, by rw [setRow_other w b q _ hne]; exact k1, k2⟩

def flat (es : List D) : List D := es.flatMap D.cells
def zeroT (P : Program) (e : TypeId) : Bool := match P.info? e with
  | some i => match i.zero with
    | some z => z.cells.size == i.size && decide (0 < i.size)
    | none => false
  | none => false
def bytesOf (P : Program) (e : TypeId) : Nat := ((P.info? e).map (·.bytes)).getD 0
theorem zeroT_spec {e : TypeId} (h : zeroT P e = true) : ∃ i z, P.info? e = some i ∧ i.zero = some z ∧ z.cells.size = i.size ∧ 0 < i.size ∧ szOf P e = i.size ∧ bytesOf P e = i.bytes := by
  unfold zeroT at h
  split at h
  · rename_i i hi
    split at h
    · rename_i z hz
      simp at h
      exact ⟨i, z, hi, hz, h.1, h.2, by simp [szOf, hi], by simp [bytesOf, hi]⟩
    · cases h
  · cases h
section
variable {X : Nat → Nat → Prop}
theorem dflat_length {z : Nat} : ∀ {es : List D}, (∀ d ∈ es, d.width = z) → (flat es).length = es.length * z
  | [], _ => by simp [flat]
  | d :: es, h => by
    have h1 := dflat_length (es := es) fun d' hd => h d' (by simp [hd])
    have h2 : d.cells.length = z := h d (by simp)
    simp only [flat, List.flatMap_cons, List.length_append, List.length_cons] at *
    rw [h1, h2, Nat.add_mul]; omega
theorem RepC.append {w : World} {η : Names} {X : Nat → Nat → Prop} : ∀ {l m : List D} {b o : Nat}, RepC P w η X l b o → RepC P w η X m b (o + l.length) → RepC P w η X (l ++ m) b o
  | [], m, b, o, _, h => by simpa using h
  | d :: l, m, b, o, h, k => by
    simp only [RepC, List.cons_append] at *
    exact ⟨h.1, RepC.append h.2 (by rwa [show o + 1 + l.length = o + (d :: l).length by simp; omega])⟩
theorem RepC.left {w : World} {η : Names} {X : Nat → Nat → Prop} : ∀ {l m : List D} {b o : Nat}, RepC P w η X (l ++ m) b o → RepC P w η X l b o ∧ RepC P w η X m b (o + l.length)
  | [], m, b, o, h => ⟨by simp [RepC], by simpa using h⟩
  | d :: l, m, b, o, h => by
    simp only [RepC, List.cons_append] at *
    obtain ⟨h1, h2⟩ := RepC.left h.2
    exact ⟨⟨h.1, h1⟩, by rwa [show o + (d :: l).length = o + 1 + l.length by simp; omega]⟩
theorem RepE.flat {w : World} {η : Names} {X : Nat → Nat → Prop} {z : Nat} : ∀ {es : List D} {b o : Nat}, RepE P w η X z es b o → (∀ d ∈ es, d.width = z) ∧ RepC P w η X (flat es) b o
  | [], b, o, _ => ⟨fun d h => (by cases h), by simp [Proofs.YtonncfminojejaaGreatDoor.flat, RepC]⟩
  | d :: es, b, o, h => by
    obtain ⟨h1, h2⟩ := RepE.cons.1 h
    obtain ⟨h3, h4⟩ := RepE.flat h2
    have h5 := h1.cells
    refine ⟨fun d' hd => ?_, ?_⟩
    · rcases List.mem_cons.1 hd with rfl | hd
      · exact h5.1
      · exact h3 d' hd
    · simp only [Proofs.YtonncfminojejaaGreatDoor.flat, List.flatMap_cons]
      refine RepC.append h5.2 ?_
      have : d.cells.length = z := h5.1
      rw [this]
      exact h4
theorem RepE.of_flat {w : World} {η : Names} {X : Nat → Nat → Prop} {z : Nat} : ∀ {es : List D} {b o : Nat}, (∀ d ∈ es, d.width = z) → RepC P w η X (Proofs.YtonncfminojejaaGreatDoor.flat es) b o → RepE P w η X z es b o
  | [], b, o, _, _ => by simp [RepE]
  | d :: es, b, o, hw, h => by
    simp only [Proofs.YtonncfminojejaaGreatDoor.flat, List.flatMap_cons] at h
    obtain ⟨h1, h2⟩ := RepC.left h
    have hz : d.width = z := hw d (by simp)
    have := RepEl.mk h1
    rw [hz] at this
    refine RepE.cons.2 ⟨this, RepE.of_flat (fun d' hd => hw d' (by simp [hd])) ?_⟩
    have e : d.cells.length = z := hz
    rw [e] at h2
    exact h2
theorem rep_src {own : Own} {es : List D} {v : Value} {tx : TypeId} {z : Nat} (hz : 0 < z) (h : Rep P w η X (.sl own es) v) (ht : (elT P tx).isSome = true) (hw : ∀ d ∈ es, d.width = z) :
    ∃ news, Src P z tx v es.length news w ∧ RepL P w η X (flat es) news ∧ (∀ x ∈ news, x.oneCell' = true) ∧ ∃ A c, v = .slice A es.length c ∧ es.length ≤ c ∧ OwnAt P w η A es.length c own ∧ (0 < es.length → ∃ b o, A = some ⟨b, o, none⟩ ∧ w.rangeAt b o news ∧ ∀ j, j < news.length → X b (o + j)) := by
  simp only [Rep] at h
  obtain ⟨A, c, rfl, h1, h2, h3, h4⟩ := h
  obtain ⟨e', he'⟩ := Option.isSome_iff_exists.1 ht
  have hk := elT_spec he'
  rcases Nat.eq_zero_or_pos es.length with h0 | h0
  · have : es = [] := List.eq_nil_of_length_eq_zero h0
    subst this
    refine ⟨[], ?_, by simp [flat, RepL], (fun x hx => by cases hx), A, c, rfl, h1, h3, fun hn => absurd hn (by simp)⟩
    cases A with
    | none => exact Src.ofNil w hk c
    | some a => exact Src.ofSlice w hk a 0 c [] (by simp) (fun j u hu => by simp at hu) (fun u hu => by cases hu)
  · obtain ⟨b, o, z', rfl, hz', hr⟩ := h4 h0
    obtain ⟨k1, k2⟩ := RepE.flat hr
    obtain ⟨vs, g1, g2, g3, g4⟩ := k2.range
    have hl : vs.length = es.length * z := by rw [g1, dflat_length hw]
    refine ⟨vs, Src.ofSlice w hk _ _ c vs hl (fun j u hu => by rw [Addr.add_mid]; exact g2 j u hu) g4, g3, g4, _, c, rfl, h1, h3, fun _ => ⟨b, o, rfl, g2, fun j hj => ?_⟩⟩
    have : ∀ {l : List D} {o j : Nat}, RepC P w η X l b o → j < l.length → X b (o + j) := by
      intro l
      induction l with
      | nil => intro o j _ hj; simp at hj
      | cons d l ih =>
        intro o j h hj
        simp only [RepC] at h
        cases j with
        | zero => exact h.1.1
        | succ j => have := ih h.2 (by simpa using hj : j < l.length); rwa [show o + 1 + j = o + (j + 1) by omega] at this
    exact this k2 (by omega)
end
theorem run_append_room_row (w : World) (t tx ty e : TypeId) (i : TypeInfo) (ht : P.underlying t = some (.slice e)) (hi : P.info? e = some i) (b sLen sCap : Nat) (x : Value) (n : Nat) (news : List Value) (hs : Src P i.size tx x n news w)
    (cur : Array Value) (hg : w.heap[b]? = some (.cells cur e (0, 0))) (hroom : sLen + n ≤ sCap) (hfit : sLen * i.size + news.length ≤ cur.size) :
    (Builtin.append_ #[t, tx] ty #[.slice (some ⟨b, 0, none⟩) sLen sCap, x]).run P w = .ok (.slice (some ⟨b, 0, none⟩) (sLen + n) sCap) (w.setRow b (cur.toList.take (sLen * i.size) ++ news ++ cur.toList.drop (sLen * i.size + news.length)).toArray) := by
  have hst := run_storeCells_at P b (sLen * i.size) e news 0 cur w hg (by simpa using hfit) hs.one
  simp only [Nat.add_zero] at hst
  rcases hs.kind with ⟨e', hk⟩ | hk <;> simp [Builtin.append_, run_underlying ht, run_underlying hk, sizeOf, typeInfo, hi, hs.len, hroom, hs.cells, Addr.add_lit, hst]

theorem append_stepS (hM : Mem P base S η w) {own : Own} {es es2 : List D} {v x : Value} {t tx ty e : TypeId} (hv : Rep P w η (Fix P S η) (.sl own es) v) {news : List Value} (hs : Src P (szOf P e) tx x es2.length news w) (hr : RepL P w η (Fix P S η) (flat es2) news) (h1 : ∀ u ∈ news, u.oneCell' = true)
    (ht : elT P t = some e) (hz : zeroT P e = true) (hw1 : ∀ d ∈ es, d.width = szOf P e) (hw2 : ∀ d ∈ es2, d.width = szOf P e)
    (hown : own = .full ∨ ∃ g, own = .row g ∧ S.ob g = some (.row e es.length)) (hlen : es.length + es2.length ≤ 140737488355328) (hby : (es.length + es2.length) * bytesOf P e ≤ 140737488355328) :
    ∃ v' η' w', (Builtin.append_ #[t, tx] ty #[v, x]).run P w = .ok v' w' ∧ Goes P base S η w (S.grow own e (es.length + es2.length)) η' w' ∧ Rep P w' η' (Fix P (S.grow own e (es.length + es2.length)) η') (.sl (.row S.next) (es ++ es2)) v' := by
  obtain ⟨i, z, hi, hzr, hzs, hpos, hsz, hbz⟩ := zeroT_spec hz
  have hu := elT_spec ht
  have hpos' : 0 < szOf P e := by omega
  obtain ⟨olds, hso, hro, h1o, A, c, rfl, hc, ho, hA⟩ := rep_src (tx := t) hpos' hv (by rw [ht]; rfl) hw1
  have hlo := hso.newsLen
  have hln := hs.newsLen
  have hnext : (S.leave own).next = S.next := by cases own <;> rfl
  rw [hsz] at hs hso hlo hln
  by_cases hgrow : c < es.length + es2.length
  · -- a new row
    have hcold := hso.cellsD
    have hrun := run_append_grow_src (P := P) w t tx ty e i z hu hi hzr A es.length c olds hcold x es2.length news hs hgrow (by omega) (growslice_fits hgrow (by rw [← hbz]; exact hby))
    have G1 := goes_drew hM
    have G2 := G1.trans (goes_leave G1.mem own)
    have hge := grownCap_ge w (es.length + es2.length) c e
    have hsize : ((olds ++ news).toArray ++ Builtin.zeroCells z.cells (grownCap w (es.length + es2.length) c e - (es.length + es2.length))).size = grownCap w (es.length + es2.length) c e * szOf P e := by
      rw [Array.size_append, List.size_toArray, size_zeroCells, hzs, hsz, List.length_append, hlo, hln, ← Nat.add_mul, ← Nat.add_mul]
      congr 1; omega
    have G3 := G2.trans (goes_name G2.mem (.row e (es.length + es2.length)) ((olds ++ news).toArray ++ Builtin.zeroCells z.cells (grownCap w (es.length + es2.length) c e - (es.length + es2.length))) e (.inr ⟨_, rfl, by rw [hsize]; exact Nat.mul_le_mul_right _ hge⟩))
    refine ⟨_, _, _, hrun, G3, ?_⟩
    simp only [Rep]
    have hnew := heap_alloc_new w.drew (.cells ((olds ++ news).toArray ++ Builtin.zeroCells z.cells (grownCap w (es.length + es2.length) c e - (es.length + es2.length))) e)
    have hη : (η.add (S.leave own).next (some w.drew.heap.size)) S.next = some w.heap.size := by simp only [Names.add, hnext, ↓reduceIte]; rfl
    refine ⟨_, _, by rw [List.length_append], by rw [List.length_append]; exact hge, by rw [List.length_append]; exact hlen, .inr ⟨w.heap.size, _, e, hη, rfl, hnew, hsize⟩, fun _ => ⟨w.heap.size, 0, szOf P e, rfl, hpos', ?_⟩⟩
    refine RepE.of_flat (fun d hd => (List.mem_append.1 hd).elim (hw1 d) (hw2 d)) ?_
    have hfl : flat (es ++ es2) = flat es ++ flat es2 := by simp [flat]
    rw [hfl]
    refine RepC.mk (RepL.append (G3.repL hro) (G3.repL hr)) (fun j u hj => ?_) (fun j hj => ?_) (fun u hu' => (List.mem_append.1 hu').elim (h1o u) (h1 u))
    · have := cell_of_row _ w.drew.heap.size (0 + j) _ e (0, 0) hnew
      rw [show (⟨w.heap.size, 0 + j, none⟩ : Addr) = ⟨w.drew.heap.size, 0 + j, none⟩ from rfl, this, Nat.zero_add]
      have hlt : j < (olds ++ news).length := (List.getElem?_eq_some_iff.1 hj).1
      rw [Array.getElem?_append_left (by simpa using hlt)]
      simpa using hj
    · intro k o hk hk'
      have hin := G2.mem.in_
      by_cases e' : k = S.next
      · subst e'
        simp only [St.grow, St.add, hnext, ↓reduceIte] at hk'
        injection hk' with hk'
        subst hk'
        have : j < (olds ++ news).length := hj
        rw [List.length_append, hlo, hln, ← Nat.add_mul] at this
        show 0 + j < (es.length + es2.length) * szOf P e
        rw [hsz]; omega
      · simp only [Names.add, hnext] at hk
        rw [if_neg e'] at hk
        have h2 : w.heap.size < w.heap.size := (hin k _ hk).2
        omega
  · -- there is room, or nothing comes
    have hle : es.length + es2.length ≤ c := by omega
    have virt : es2.length = 0 → c = es.length → ∃ v' η' w', (Builtin.append_ #[t, tx] ty #[.slice A es.length c, x]).run P w = .ok v' w' ∧ Goes P base S η w (S.grow own e (es.length + es2.length)) η' w' ∧ Rep P w' η' (Fix P (S.grow own e (es.length + es2.length)) η') (.sl (.row S.next) (es ++ es2)) v' := by
      intro h0 hcn
      have he2 : es2 = [] := List.eq_nil_of_length_eq_zero h0
      subst he2
      have hn0 : news = [] := List.eq_nil_of_length_eq_zero (by rw [hln]; simp)
      subst hn0
      have G2 := goes_leave hM own
      have G3 := G2.trans (goes_bare G2.mem e (es.length + ([] : List D).length))
      refine ⟨_, _, w, run_append_nothing w t tx ty e i hu hi A es.length c hc x hs, G3, ?_⟩
      have := G3.rep hv
      simp only [Rep] at this ⊢
      rw [List.append_nil]
      obtain ⟨A', c', e1, e2, e3, _, e5⟩ := this
      injection e1 with e1a e1b e1c
      subst e1a e1c
      exact ⟨A, c, rfl, e2, e3, .inl ⟨by simp only [Names.add, hnext, ↓reduceIte], hcn⟩, e5⟩
    rcases hown with rfl | ⟨g, rfl, hg⟩
    · have hcn : c = es.length := ho
      exact virt (by omega) hcn
    · rcases ho with hcn | ⟨b, cur, e', hb, rfl, hcur, hcs⟩
      · exact virt (by omega) hcn.2
      · obtain ⟨cur', k1, k2⟩ := hM.row g e es.length b hg hb
        rw [hcur] at k1
        injection k1 with k1
        injection k1 with k1a k1b
        subst k1a k1b
        have hfit : es.length * i.size + news.length ≤ cur.size := by
          rw [hln, hcs, hsz, ← Nat.add_mul]
          exact Nat.mul_le_mul_right _ hle
        have hrun := run_append_room_row w t tx ty e' i hu hi b es.length c x es2.length news hs cur hcur hle hfit
        have hsame : ∀ j, j < es.length * szOf P e' → (cur.toList.take (es.length * i.size) ++ news ++ cur.toList.drop (es.length * i.size + news.length)).toArray[j]? = cur[j]? := fun j hj => by
          rw [hsz] at hj
          have hl1 : j < (cur.toList.take (es.length * i.size)).length := by have hcl : cur.toList.length = cur.size := Array.length_toList; rw [List.length_take, hcl]; omega
          rw [List.getElem?_toArray, List.append_assoc, List.getElem?_append_left hl1, List.getElem?_take, if_pos hj, Array.getElem?_toList]
        have hcsz : (cur.toList.take (es.length * i.size) ++ news ++ cur.toList.drop (es.length * i.size + news.length)).toArray.size = cur.size := by
          simp only [List.size_toArray, List.length_append, List.length_take, List.length_drop, Array.length_toList]
          omega
        have G := goes_room hM hg hb hcur hcsz hsame (Nat.le_add_right _ es2.length) (by rw [hcs]; exact Nat.mul_le_mul_right _ hle)
        refine ⟨_, _, _, hrun, G, ?_⟩
        have hnew := setRow_heap w b cur (cur.toList.take (es.length * i.size) ++ news ++ cur.toList.drop (es.length * i.size + news.length)).toArray e' (0, 0) hcur
        simp only [Rep]
        refine ⟨_, c, by rw [List.length_append], by rw [List.length_append]; exact hle, by rw [List.length_append]; exact hlen, .inr ⟨b, _, e', by simp only [Names.add, ↓reduceIte], rfl, hnew, by rw [hcsz, hcs]⟩, fun _ => ⟨b, 0, szOf P e', rfl, hpos', ?_⟩⟩
        refine RepE.of_flat (fun d hd => (List.mem_append.1 hd).elim (hw1 d) (hw2 d)) ?_
        have hfl : flat (es ++ es2) = flat es ++ flat es2 := by simp [flat]
        rw [hfl]
        have hold : cur.toList.take (es.length * i.size) = olds := by
          apply List.ext_getElem?
          intro j
          rw [List.getElem?_take]
          by_cases hj : j < es.length * i.size
          · rw [if_pos hj]
            have h0 : 0 < es.length := by
              rcases Nat.eq_zero_or_pos es.length with h | h
              · rw [h] at hj; simp at hj
              · exact h
            obtain ⟨b', o', hA1, hA2, _⟩ := hA h0
            injection hA1 with hA1
            injection hA1 with hA1a hA1b
            subst hA1a hA1b
            have hlt : j < olds.length := by omega
            have h3 := hA2 j _ (List.getElem?_eq_getElem hlt)
            rw [Nat.zero_add, cell_of_row w b j cur e' (0, 0) hcur] at h3
            rw [Array.getElem?_toList, h3, List.getElem?_eq_getElem hlt]
          · rw [if_neg hj, List.getElem?_eq_none (by omega)]
        refine RepC.mk (RepL.append (G.repL hro) (G.repL hr)) (fun j u hj => ?_) (fun j hj => ?_) (fun u hu' => (List.mem_append.1 hu').elim (h1o u) (h1 u))
        · rw [cell_of_row _ b (0 + j) _ e' (0, 0) hnew, Nat.zero_add, hold]
          have hlt : j < (olds ++ news).length := (List.getElem?_eq_some_iff.1 hj).1
          rw [List.getElem?_toArray, List.getElem?_append_left hlt]
          exact hj
        · intro k o hk hk'
          by_cases e3 : k = S.next
          · subst e3
            rw [grow_ob, if_pos rfl] at hk'
            injection hk' with hk'
            subst hk'
            have : j < (olds ++ news).length := hj
            rw [List.length_append, hlo, hln, ← Nat.add_mul] at this
            show 0 + j < (es.length + es2.length) * szOf P e'
            rw [hsz]; omega
          · simp only [Names.add] at hk
            rw [if_neg e3] at hk
            rw [grow_ob, if_neg e3] at hk'
            by_cases e4 : k = g
            · rw [if_pos e4] at hk'; cases hk'
            · rw [if_neg e4] at hk'
              exact absurd (hM.inj k g b hk hb (by rw [hk']; rfl) (by rw [hg]; rfl)) e4
theorem append_step (hM : Mem P base S η w) {own own2 : Own} {es es2 : List D} {v x : Value} {t tx ty e : TypeId} (hv : Rep P w η (Fix P S η) (.sl own es) v) (hx : Rep P w η (Fix P S η) (.sl own2 es2) x)
    (ht : elT P t = some e) (htx : (elT P tx).isSome = true) (hz : zeroT P e = true) (hw1 : ∀ d ∈ es, d.width = szOf P e) (hw2 : ∀ d ∈ es2, d.width = szOf P e)
    (hown : own = .full ∨ ∃ g, own = .row g ∧ S.ob g = some (.row e es.length)) (hlen : es.length + es2.length ≤ 140737488355328) (hby : (es.length + es2.length) * bytesOf P e ≤ 140737488355328) :
    ∃ v' η' w', (Builtin.append_ #[t, tx] ty #[v, x]).run P w = .ok v' w' ∧ Goes P base S η w (S.grow own e (es.length + es2.length)) η' w' ∧ Rep P w' η' (Fix P (S.grow own e (es.length + es2.length)) η') (.sl (.row S.next) (es ++ es2)) v' := by
  obtain ⟨i, z, hi, hzr, hzs, hpos, hsz, hbz⟩ := zeroT_spec hz
  have hpos' : 0 < szOf P e := by omega
  obtain ⟨news, hs, hr, h1, _⟩ := rep_src (tx := tx) hpos' hx htx hw2
  exact append_stepS hM hv hs hr h1 ht hz hw1 hw2 hown hlen hby
end
end Go.Proofs.YtonncfminojejaaGreatDoor
