/- A region that draws its order, whose last operations wait for all the others: the head in whatever order, under a held condition; the tail one behind the other. Conditions: none. -/
import Derived.StillTail
import Derived.Deep.RegionHeld
namespace Go.Proofs.Ytpnjkebjdclkfaa

section
variable {P : Program} {md : Region.Mode}

theorem wpAny_more {ops : Array Oper} {Q : Exit → Act → World → Prop} : ∀ (f : Nat) (listed : Array Bool) (a : Act) (w : World), wpAny P md ops Q f listed a w → wpAny P md ops Q (f + 1) listed a w
  | 0, _, _, _, h => ⟨fun _ => h.2, fun i hi => by rw [h.1] at hi; cases hi⟩
  | f + 1, _, _, _, h => ⟨h.1, fun i hi => wpOp_mono (fun a' w' h' => wpAny_more f _ a' w' h') (h.2 i hi)⟩
theorem wpAny_moreN {ops : Array Oper} {Q : Exit → Act → World → Prop} {f : Nat} {listed : Array Bool} {a : Act} {w : World} (h : wpAny P md ops Q f listed a w) : ∀ k, wpAny P md ops Q (k + f) listed a w
  | 0 => by rw [Nat.zero_add]; exact h
  | k + 1 => by rw [show k + 1 + f = (k + f) + 1 by omega]; exact wpAny_more _ _ _ _ (wpAny_moreN h k)

/-- Edges and guards go back. -/
def backB (l : List Oper) (n : Nat) : Bool :=
  (List.range n).all fun j => match l[j]? with
    | some o => (o.after.all fun e => decide (e.on < j)) && (match o.guard with | some (g, _) => decide (g < n) | none => true)
    | none => true
def heldTailB (l : List Oper) (n : Nat) : Bool :=
  decide (n < l.length) && Region.sinkB .any l.toArray n && Region.chainB .any l.toArray n && backB l n && Region.seqB .any l.toArray (l.length - n) n (Array.replicate n true ++ Array.replicate (l.length - n) false)

theorem getD_app_lt {L : Array Bool} {g j n : Nat} (d : Bool) (hL : L.size = n) (hj : j < n) : (L ++ Array.replicate g false).getD j d = L.getD j d := by
  subst hL
  simp [hj, Nat.lt_of_lt_of_le hj (Nat.le_add_right _ _)]
theorem getD_app_ge {L : Array Bool} {g j n : Nat} (hL : L.size = n) (hj : n ≤ j) (hg : j < n + g) : (L ++ Array.replicate g false).getD j true = false := by
  subst hL
  have h1 : j < L.size + g := hg
  simp [h1, Array.getElem_append, Nat.not_lt.2 hj]

theorem take_get {l : List Oper} {n j : Nat} (hj : j < n) : (l.take n).toArray[j]? = l.toArray[j]? := by
  simp [hj]

theorem backB_spec {l : List Oper} {n j : Nat} {o : Oper} (h : backB l n = true) (hj : j < n) (ho : l.toArray[j]? = some o) : (∀ e ∈ o.after, e.on < j) ∧ ∀ g b, o.guard = some (g, b) → g < n := by
  have h1 := List.all_eq_true.1 h j (List.mem_range.2 hj)
  have ho' : l[j]? = some o := by simpa using ho
  simp only [ho', Bool.and_eq_true] at h1
  refine ⟨fun e he => ?_, fun g b hg => ?_⟩
  · have := Array.all_eq_true_iff_forall_mem.1 h1.1 e he
    simpa using this
  · have := h1.2
    rw [hg] at this
    simpa using this

theorem ready_head {l : List Oper} {n g j : Nat} {L : Array Bool} (hb : backB l n = true) (hL : L.size = n) (hj : j < n) : j ∈ Region.ready md l.toArray (L ++ Array.replicate g false) ↔ j ∈ Region.ready md (l.take n).toArray L := by
  rw [mem_ready, mem_ready, getD_app_lt true hL hj, take_get hj]
  constructor
  · rintro ⟨h0, o, ho, hall⟩
    refine ⟨h0, o, ho, fun e he hbd => ?_⟩
    have hlt := (backB_spec hb hj ho).1 e he
    have := hall e he hbd
    rwa [getD_app_lt false hL (by omega)] at this
  · rintro ⟨h0, o, ho, hall⟩
    refine ⟨h0, o, ho, fun e he hbd => ?_⟩
    have hlt := (backB_spec hb hj ho).1 e he
    rw [getD_app_lt false hL (by omega)]
    exact hall e he hbd

/-- If nobody of the head may come up, all have come up. -/
theorem head_done {l : List Oper} {n : Nat} {L : Array Bool} (hn : n < l.length) (hb : backB l n = true) (hL : L.size = n) (hr : Region.ready md (l.take n).toArray L = []) : ∀ i, i < n → L.getD i false = true := by
  intro i
  induction i using Nat.strongRecOn with
  | _ i ih =>
    intro hi
    cases h : L.getD i false with
    | true => rfl
    | false =>
      exfalso
      have hil : i < l.length := by omega
      have ho : l.toArray[i]? = some l[i] := by simp [hil]
      have : i ∈ Region.ready md (l.take n).toArray L := mem_ready.2 ⟨getD_in (by omega) h, l[i], by rw [take_get hi]; exact ho, fun e he _ => ih e.on ((backB_spec hb hi ho).1 e he) (by have := (backB_spec hb hi ho).1 e he; omega)⟩
      rw [hr] at this
      cases this

theorem wpOp_head {l : List Oper} {n i : Nat} {Q : Exit → Act → World → Prop} {T : Act → World → Prop} {K : Act → World → Prop} {a : Act} {w : World} (hb : backB l n = true) (hi : i < n) (hil : i < l.length)
    (h : wpOp P (l.take n).toArray (Exit.then T Q) i K a w) : wpOp P l.toArray Q i K a w := by
  have ho : l.toArray[i]? = some l[i] := by simp [hil]
  have hg := (backB_spec hb hi ho).2
  have hy : Region.wanted l[i] (yielded (l.take n).toArray a.tmps) = Region.wanted l[i] (yielded l.toArray a.tmps) := by
    unfold Region.wanted
    cases hgd : l[i].guard with
    | none => rfl
    | some gb =>
      obtain ⟨g, b⟩ := gb
      have hlt := hg g b hgd
      simp only [yielded, take_get hlt]
  unfold wpOp at h ⊢
  rw [take_get hi] at h
  simp only [ho] at h ⊢
  rw [hy] at h
  by_cases hw : Region.wanted l[i] (yielded l.toArray a.tmps) = true
  · rw [if_pos hw] at h ⊢
    rcases h with h | ⟨h1, h2⟩
    · refine .inl ?_
      unfold Oper.wp at h ⊢
      generalize (execOp a.eval l[i]).run P w = r at *
      cases r with
      | ok x w' =>
        cases x <;> simp only [Oper.upon] at h ⊢ <;> first
          | exact h
          | exact Calls.mono h (fun e w'' he => by cases e <;> exact he)
      | halt x w' => cases x <;> simp only [Oper.upon] at h ⊢ <;> exact h
    · obtain ⟨a', w', h2⟩ := h2
      exact .inr ⟨h1, a', w', h2⟩
  · rw [if_neg hw] at h ⊢
    exact h

theorem head_inv_set {l : List Oper} {n i g : Nat} {L : Array Bool} (hL : L.size = n) (hi : i < n) : (L ++ Array.replicate g false).setIfInBounds i true = L.setIfInBounds i true ++ Array.replicate g false := by
  subst hL
  rw [Array.setIfInBounds_append, if_pos hi]

theorem wpAny_tail {l : List Oper} {n : Nat} {Q : Exit → Act → World → Prop} (hn : n < l.length) (hs : Region.sinkB md l.toArray n = true) (hc : Region.chainB md l.toArray n = true) (hb : backB l n = true)
    (hq : Region.seqB md l.toArray (l.length - n) n (Array.replicate n true ++ Array.replicate (l.length - n) false) = true) :
    ∀ (f : Nat) (L : Array Bool) (a : Act) (w : World), HeadInv md l.toArray n (L ++ Array.replicate (l.length - n) false) → L.size = n →
      wpAny P md (l.take n).toArray (Exit.then (fun a w => wpList P l.toArray Q (l.drop n) a w) Q) f L a w → wpAny P md l.toArray Q (f + (l.length - n)) (L ++ Array.replicate (l.length - n) false) a w := by
  have hend : ∀ (L : Array Bool) (a : Act) (w : World), L.size = n → Region.ready md (l.take n).toArray L = [] → wpList P l.toArray Q (l.drop n) a w → wpAny P md l.toArray Q (l.length - n) (L ++ Array.replicate (l.length - n) false) a w := by
    intro L a w hL hr h
    have hd := head_done hn hb hL hr
    have hLe : L = Array.replicate n true := by
      apply Array.ext
      · simp [hL]
      · intro j h1 h2
        have := hd j (by omega)
        simpa [h1] using this
    have := wpAny_of_seq (md := md) (Q' := Q) (P := P) (ops := l.toArray) (l.drop n) n (L ++ Array.replicate (l.length - n) false) a w (fun j => by simp [List.getElem?_drop]) (by rw [hLe, List.length_drop]; exact hq) h
    rwa [List.length_drop] at this
  intro f
  induction f with
  | zero =>
    intro L a w inv hL h
    rw [Nat.zero_add]
    exact hend L a w hL h.1 h.2
  | succ f ih =>
    intro L a w inv hL h
    by_cases hr : Region.ready md (l.take n).toArray L = []
    · exact wpAny_moreN (hend L a w hL hr (h.1 hr)) (f + 1)
    · obtain ⟨i0, hi0⟩ : ∃ i, i ∈ Region.ready md (l.take n).toArray L := by
        cases hx : Region.ready md (l.take n).toArray L with
        | nil => exact absurd hx hr
        | cons x xs => exact ⟨x, by simp⟩
      have hi0n : i0 < n := by
        obtain ⟨_, o, ho, _⟩ := mem_ready.1 hi0
        have := (Array.getElem?_eq_some_iff.1 ho).1
        simp at this
        omega
      have hi0f := (ready_head (g := l.length - n) hb hL hi0n).2 hi0
      have hun := (mem_ready.1 hi0f).1
      have hlt : ∀ j ∈ Region.ready md l.toArray (L ++ Array.replicate (l.length - n) false), j < n := by
        intro j hj
        rcases Nat.lt_or_ge j n with h' | h'
        · exact h'
        · exact absurd hj (tail_waits hs hc (by simpa using hn) inv _ i0 rfl hi0n hun j h')
      rw [show f + 1 + (l.length - n) = (f + (l.length - n)) + 1 by omega]
      refine ⟨fun h0 => (by rw [h0] at hi0f; cases hi0f), fun i hi => ?_⟩
      have hin := hlt i hi
      refine wpOp_head hb hin (by omega) (wpOp_mono (fun a' w' h' => ?_) (h.2 i ((ready_head hb hL hin).1 hi)))
      rw [head_inv_set (l := l) hL hin]
      refine ih _ a' w' ?_ (by simp [hL]) h'
      rw [← head_inv_set (l := l) hL hin]
      exact inv.set hi hin

theorem wp_region_any_tail {l : List Oper} (n : Nat) {id : Nat} {Q : Exit → Act → World → Prop} {a : Act} {w : World} (hm : P.follows .mixedOrders = true) (hB : heldTailB l n = true)
    (h : wpAny P .any (l.take n).toArray (Exit.then (fun a w => wpList P l.toArray Q (l.drop n) a w) Q) (l.take n).toArray.size (Array.replicate (l.take n).toArray.size false) a w.drew) : (Code.region id l.toArray true).wp P Q a w := by
  simp only [heldTailB, Bool.and_eq_true, decide_eq_true_eq] at hB
  obtain ⟨⟨⟨⟨hn, hs⟩, hc⟩, hb⟩, hq⟩ := hB
  have htl : (l.take n).toArray.size = n := by simp; omega
  rw [htl] at h
  refine wp_region_any hm ?_
  have e : Array.replicate l.toArray.size false = Array.replicate n false ++ Array.replicate (l.length - n) false := by
    rw [Array.replicate_append_replicate]; congr 1; simp; omega
  have inv0 : HeadInv .any l.toArray n (Array.replicate n false ++ Array.replicate (l.length - n) false) := by
    rw [← e]
    exact ⟨by simp, fun j oj _ hl => (by rw [getD_replicate_false] at hl; cases hl), fun t _ ht => getD_in (by simpa using ht) (getD_replicate_false _ _)⟩
  have := wpAny_tail hn hs hc hb hq n (Array.replicate n false) a w.drew inv0 (by simp) h
  rw [e]
  rw [show n + (l.length - n) = l.toArray.size by simp; omega] at this
  exact this

/-- The head under a held condition, then the tail. -/
theorem wp_region_held_tail {l : List Oper} (n : Nat) {S : World → Prop} {id : Nat} {Q : Exit → Act → World → Prop} {a : Act} {w : World} (hm : P.follows .mixedOrders = true) (hB : heldTailB l n = true) (hS : S w.drew)
    (h : S w.drew → wpAnyH P .any (l.take n).toArray (Exit.then (fun a w => wpList P l.toArray Q (l.drop n) a w) Q) S (l.take n).toArray.size (Array.replicate (l.take n).toArray.size false) a w.drew) : (Code.region id l.toArray true).wp P Q a w :=
  wp_region_any_tail n hm hB (wpAny_of_held _ _ _ _ (h hS))

/-- Operation number i, laid out. -/
def nth : List Oper → Nat → Option Oper
  | [], _ => none
  | o :: _, 0 => some o
  | _ :: l, n + 1 => nth l n
theorem nth_eq : ∀ (l : List Oper) (i : Nat), nth l i = l[i]?
  | [], i => by simp [nth]
  | o :: _, 0 => by simp [nth]
  | _ :: l, n + 1 => by simp [nth, nth_eq l n]

section
variable {l : List Oper} {Q : Exit → Act → World → Prop} {S : World → Prop} {fuel i : Nat} {oi : Oper} {listed : Array Bool} {a : Act} {w : World}
/-- The load of a long array. -/
theorem load_exec {op : Oper} {a : Act} {w : World} (ty : TypeId) (x : Operand) (ho : op.op = .load ty x) (b o : Nat) (hx : a.eval x = .pointer (some ⟨b, o, none⟩)) (cs : List Value) (d : TypeDesc) (hc : w.rangeAt b o cs)
    (hu : P.underlying ty = some d) (hd : d.isRow = true) (hi : (P.info? ty).map (·.size) = some cs.length) : (execOp a.eval op).run P w = .ok (.value (.agg cs.toArray)) w := by
  unfold execOp
  simp only [ho, hx, Instr.loadAt, Instr.sureAddr, Sem.run_bind, Sem.run_pure, Result.andThen_ok, run_loadVar_mid w b o ty cs d hc hu hd hi]
/-- Take number i first: it yields v in every world that meets S. -/
theorem takeH {t : Tmp} {v : Value} (hi : nth l i = some oi) (hd : oi.dst = some t) (hs : Region.noSelect l.toArray = true) (hf : Region.free md l.toArray listed i = true) (hr : (Region.ready md l.toArray listed).contains i = true)
    (hQ : ∀ c a w, Q (.panic c) (a.put (some t) v) w → Q (.panic c) a w) (hw : Region.wanted oi (yielded l.toArray a.tmps) = true) (hy : ∀ w, S w → (execOp a.eval oi).run P w = .ok (.value v) w) (hS : S w)
    (h : wpAnyH P md l.toArray Q S fuel (listed.setIfInBounds i true) (a.put (some t) v) w) : wpAnyH P md l.toArray Q S (fuel + 1) listed a w := by
  rw [nth_eq] at hi
  rw [← hd] at hQ h
  exact wpAnyH_take (by simpa using hi) hs hf hr hQ (.inl ⟨hw, hy⟩) hS h
/-- The one that may come up comes up. -/
theorem oneH (hi : nth l i = some oi) (hr : Region.ready md l.toArray listed = [i])
    (h : ∀ K' : Act → World → Prop, Shut (∀ a w, S w → (S w → wpAnyH P md l.toArray Q S fuel (listed.setIfInBounds i true) a w) → K' a w) → if Region.wanted oi (yielded l.toArray a.tmps) = true then Oper.wp P oi a w K' Q else K' (a.put oi.dst undef) w) : wpAnyH P md l.toArray Q S (fuel + 1) listed a w := by
  rw [nth_eq] at hi
  exact wpAnyH_ready hr (by simp) (AllReadyH.cons (by simpa using hi) h AllReadyH.nil)
/-- One of two comes up. -/
theorem twoH {j : Nat} {oj : Oper} (hi : nth l i = some oi) (hj : nth l j = some oj) (hr : Region.ready md l.toArray listed = [i, j])
    (h1 : ∀ K' : Act → World → Prop, Shut (∀ a w, S w → (S w → wpAnyH P md l.toArray Q S fuel (listed.setIfInBounds i true) a w) → K' a w) → if Region.wanted oi (yielded l.toArray a.tmps) = true then Oper.wp P oi a w K' Q else K' (a.put oi.dst undef) w)
    (h2 : ∀ K' : Act → World → Prop, Shut (∀ a w, S w → (S w → wpAnyH P md l.toArray Q S fuel (listed.setIfInBounds j true) a w) → K' a w) → if Region.wanted oj (yielded l.toArray a.tmps) = true then Oper.wp P oj a w K' Q else K' (a.put oj.dst undef) w) : wpAnyH P md l.toArray Q S (fuel + 1) listed a w := by
  rw [nth_eq] at hi hj
  exact wpAnyH_ready hr (by simp) (AllReadyH.cons (by simpa using hi) h1 (AllReadyH.cons (by simpa using hj) h2 AllReadyH.nil))
/-- A guarded one that is not wanted. -/
theorem skipH {t : Tmp} (hi : nth l i = some oi) (hd : oi.dst = some t) (hs : Region.noSelect l.toArray = true) (hf : Region.free md l.toArray listed i = true) (hr : (Region.ready md l.toArray listed).contains i = true)
    (hQ : ∀ c a w, Q (.panic c) (a.put (some t) undef) w → Q (.panic c) a w) (hw : Region.wanted oi (yielded l.toArray a.tmps) = false) (hS : S w)
    (h : wpAnyH P md l.toArray Q S fuel (listed.setIfInBounds i true) (a.put (some t) undef) w) : wpAnyH P md l.toArray Q S (fuel + 1) listed a w := by
  rw [nth_eq] at hi
  rw [← hd] at hQ h
  exact wpAnyH_take (by simpa using hi) hs hf hr hQ (.inr ⟨hw, rfl⟩) hS h
end
end
end Go.Proofs.Ytpnjkebjdclkfaa
