/- Rows of trees of memory that are being built. Conditions: none. -/
import Derived.Test.YtpnjkebjdclkfaaVB
namespace Go.Proofs.Ytpnjkebjdclkfaa
open Go.RowKit

/-- What trees of memory have in common. -/
structure TreeLike {D : Type} (size : Nat) (Is : World → (Nat → Prop) → D → List Value → Prop) : Prop where
  pos : 0 < size
  keep : ∀ {w w' : World} {F : Nat → Prop} {d : D} {C : List Value}, Is w F d C → (∀ q : Addr, F q.block → w'.cell? q = w.cell? q) → Is w' F d C
  mono : ∀ {w : World} {F G : Nat → Prop} {d : D} {C : List Value}, Is w F d C → (∀ k, F k → G k) → Is w G d C
  length : ∀ {w : World} {F : Nat → Prop} {d : D} {C : List Value}, Is w F d C → C.length = size
  one : ∀ {w : World} {F : Nat → Prop} {d : D} {C : List Value}, Is w F d C → ∀ v ∈ C, v.oneCell' = true
theorem treeSch : TreeLike 3 IsSch := ⟨by omega, fun h k => h.keep k, fun h k => h.mono k, fun h => h.length, fun h => h.one⟩
theorem treeVal : TreeLike 6 IsVal := ⟨by omega, fun h k => h.keep k, fun h k => h.mono k, fun h => h.length, fun h => h.one⟩

/-- A row of the call's own, whose elements are trees that lie beside it. -/
structure RB {D : Type} (t : TypeId) (size : Nat) (Is : World → (Nat → Prop) → D → List Value → Prop) (w : World) (B : Nat) (A : Option Addr) (c : Nat) (ds : List D) (Cs : List (List Value)) : Prop where
  hl : Cs.length = ds.length
  h3 : ∀ C ∈ Cs, C.length = size
  h1 : ∀ C ∈ Cs, ∀ v ∈ C, v.oneCell' = true
  own : w.ownsRow B t size (.slice A ds.length c) ds.length Cs.flatten
  is : ∀ (i : Nat) (p : D), ds[i]? = some p → ∃ C, Cs[i]? = some C ∧ Is w (fun b => B ≤ b ∧ b < w.heap.size ∧ (Value.slice A ds.length c).ownBlock ≠ some b) p C

section
variable {D : Type} {t : TypeId} {size : Nat} {Is : World → (Nat → Prop) → D → List Value → Prop} {w w' : World} {B : Nat} {A : Option Addr} {c : Nat} {ds : List D} {Cs : List (List Value)}
theorem RB.nil (T : TreeLike size Is) (w : World) (B : Nat) : RB t size Is w B none 0 ([] : List D) [] :=
  ⟨rfl, fun _ h => (by cases h), fun _ h => (by cases h), World.ownsRow_nil _ _ _ _, fun i p hp => by simp at hp⟩
theorem RB.keep (T : TreeLike size Is) (h : RB t size Is w B A c ds Cs) (hf : Below w.heap.size w w') : RB t size Is w' B A c ds Cs :=
  ⟨h.hl, h.h3, h.h1, own_below' h.own hf, fun i p hp => by
    obtain ⟨C, hC, hv⟩ := h.is i p hp
    exact ⟨C, hC, T.mono (T.keep hv fun q hq => hf.cell hq.2.1) fun b hb => ⟨hb.1, Nat.lt_of_lt_of_le hb.2.1 hf.size, hb.2.2⟩⟩⟩
theorem RB.app (T : TreeLike size Is) {m : Nat} {A' : Option Addr} {c' : Nat} {x : D} {C : List Value} (h : RB t size Is w B A c ds Cs) (hm : ds.length = m)
    (hx : Is w (fun b => B ≤ b ∧ b < w.heap.size ∧ (Value.slice A m c).ownBlock ≠ some b) x C)
    (hown : w'.ownsRow B t size (.slice A' (m + 1) c') (m + 1) (Cs.flatten ++ C)) (hgr : w.grownBy w' (Value.slice A m c).ownBlock)
    (hlie : (Value.slice A' (m + 1) c').ownBlock = (Value.slice A m c).ownBlock ∨ (Value.slice A' (m + 1) c').ownBlock = some w.heap.size) :
    RB t size Is w' B A' c' (ds ++ [x]) (Cs ++ [C]) := by
  subst hm
  have hlen : (ds ++ [x]).length = ds.length + 1 := by simp
  have keepV : ∀ (p : D) (E : List Value), Is w (fun b => B ≤ b ∧ b < w.heap.size ∧ (Value.slice A ds.length c).ownBlock ≠ some b) p E → Is w' (fun b => B ≤ b ∧ b < w'.heap.size ∧ (Value.slice A' (ds.length + 1) c').ownBlock ≠ some b) p E := by
    intro p E hv
    refine T.mono (T.keep hv fun q hq => World.cell?_of_block (hgr.block q.block hq.2.1 (fun e => hq.2.2 e.symm))) fun b hb => ⟨hb.1, Nat.lt_of_lt_of_le hb.2.1 hgr.size, ?_⟩
    rcases hlie with e | e <;> rw [e]
    · exact hb.2.2
    · intro e; injection e with e; have := hb.2.1; omega
  refine ⟨by simp [h.hl], ?_, ?_, ?_, fun i p hp => ?_⟩
  · intro E hE
    rcases List.mem_append.1 hE with hE | hE
    · exact h.h3 E hE
    · rw [List.mem_singleton.1 hE]; exact T.length hx
  · intro E hE
    rcases List.mem_append.1 hE with hE | hE
    · exact h.h1 E hE
    · rw [List.mem_singleton.1 hE]; exact T.one hx
  · rw [hlen, List.flatten_append]
    simpa using hown
  · rw [hlen]
    have hl := h.hl
    by_cases hi : i < ds.length
    · rw [List.getElem?_append_left hi] at hp
      obtain ⟨E, hE, hv⟩ := h.is i p hp
      exact ⟨E, by rw [List.getElem?_append_left (by omega)]; exact hE, keepV p E hv⟩
    · have hil : i = ds.length := by
        have := (List.getElem?_eq_some_iff.1 hp).1
        simp at this; omega
      subst hil
      rw [List.getElem?_append_right (Nat.le_refl _)] at hp
      simp at hp
      subst hp
      exact ⟨C, by rw [← hl, List.getElem?_append_right (Nat.le_refl _)]; simp, keepV _ _ hx⟩
/-- What has been built is a row of trees. -/
theorem RB.done (T : TreeLike size Is) (h : RB t size Is w B A c ds Cs) : ∃ b o, ∃ C : Nat → List Value, (0 < ds.length → A = some ⟨b, o, none⟩ ∧ (B ≤ b ∧ b < w.heap.size)) ∧
    (∀ (i : Nat) (p : D), ds[i]? = some p → (C i).length = size ∧ w.rangeAt b (o + i * size) (C i)) ∧ (∀ (i : Nat) (p : D), ds[i]? = some p → Is w (fun b => B ≤ b ∧ b < w.heap.size) p (C i)) ∧ ds.length ≤ c := by
  have hrp := own_cells h.own
  rcases Nat.eq_zero_or_pos ds.length with h0 | h0
  · have hp0 : ds = [] := List.eq_nil_of_length_eq_zero h0
    subst hp0
    exact ⟨0, 0, fun _ => [], fun h => absurd h (by simp), fun i p hp => (by simp at hp), fun i p hp => (by simp at hp), own_cap h.own⟩
  · obtain ⟨b, o, hA, hFb, hc⟩ := hrp.2 h0
    have hFb' := h.own.lt b hFb
    refine ⟨b, o, fun i => Cs.getD i [], fun _ => ⟨hA, hFb'⟩, fun i p hp => ?_, fun i p hp => ?_, own_cap h.own⟩
    · obtain ⟨C, hC, hv⟩ := h.is i p hp
      have e : (fun i => Cs.getD i []) i = C := by simp [List.getD, hC]
      rw [e]
      refine ⟨T.length hv, fun j v hj => ?_⟩
      have hj6 : j < size := by rw [← T.length hv]; exact (List.getElem?_eq_some_iff.1 hj).1
      have := flat_get h.h3 hC hj6
      rw [Nat.add_assoc]
      exact hc (i * size + j) v (this.trans hj)
    · obtain ⟨C, hC, hv⟩ := h.is i p hp
      have e : (fun i => Cs.getD i []) i = C := by simp [List.getD, hC]
      rw [e]
      exact T.mono hv fun b hb => ⟨hb.1, hb.2.1⟩
end
end Go.Proofs.Ytpnjkebjdclkfaa
