/- Steps of the memory behind a state: new blocks, stores, appends, draws. Conditions: none. -/
import Derived.Test.YtpnjkebjdclkfaaTo
import Derived.Deep.AppendSrc
import Derived.Deep.Upon
import Derived.Laws.CopyRow
import Derived.Laws.CopyOwn
namespace Go.Proofs.Ytpnjkebjdclkfaa
open Go.RowKit

def St.add (S : St) (o : Ob) : St := ⟨S.next + 1, fun k => if k = S.next then some o else S.ob k⟩
def St.set (S : St) (k : Nat) (o : Ob) : St := ⟨S.next, fun j => if j = k then some o else S.ob j⟩
def St.drop (S : St) (g : Nat) : St := ⟨S.next, fun k => if k = g then none else S.ob k⟩
def St.leave (S : St) : Own → St
  | .row g => S.drop g
  | _ => S
def St.grow (S : St) (o : Own) (e : TypeId) (n : Nat) : St := (S.leave o).add (.row e n)

/-- One step of memory. -/
structure Goes (P : Program) (base : Nat) (S : St) (η : Names) (w : World) (S' : St) (η' : Names) (w' : World) : Prop where
  mem : Mem P base S' η' w'
  keep : Keep (fun _ => True) w η (Fix P S η) w' η' (Fix P S' η')
  below : Below base w w'

section
variable {P : Program} {base : Nat} {S : St} {η : Names} {w : World}
theorem Keep.refl (N : Nat → Prop) (w : World) (η : Names) (X : Nat → Nat → Prop) : Keep N w η X w η X := ⟨Nat.le_refl _, fun _ _ _ h => ⟨h, rfl⟩, fun _ _ _ h => h, fun _ cur _ h => ⟨cur, h, rfl⟩⟩
theorem Keep.trans {N : Nat → Prop} {w w1 w2 : World} {η η1 η2 : Names} {X X1 X2 : Nat → Nat → Prop} (h : Keep N w η X w1 η1 X1) (k : Keep N w1 η1 X1 w2 η2 X2) : Keep N w η X w2 η2 X2 :=
  ⟨Nat.le_trans h.size k.size, fun b i hb hx => ⟨(k.fix b i (Nat.lt_of_lt_of_le hb h.size) (h.fix b i hb hx).1).1, ((k.fix b i (Nat.lt_of_lt_of_le hb h.size) (h.fix b i hb hx).1).2).trans (h.fix b i hb hx).2⟩,
    fun q b hn hq => k.eta q b hn (h.eta q b hn hq), fun b cur e hc => by
      obtain ⟨c1, h1, h2⟩ := h.shp b cur e hc
      obtain ⟨c2, h3, h4⟩ := k.shp b c1 e h1
      exact ⟨c2, h3, h4.trans h2⟩⟩
theorem Keep.weaken {N M : Nat → Prop} {w w' : World} {η η' : Names} {X X' : Nat → Nat → Prop} (h : Keep N w η X w' η' X') (hm : ∀ k, M k → N k) : Keep M w η X w' η' X' := ⟨h.size, h.fix, fun k b hk => h.eta k b (hm k hk), h.shp⟩
theorem Goes.refl (h : Mem P base S η w) : Goes P base S η w S η w := ⟨h, Keep.refl _ _ _ _, Below.refl _ _⟩
theorem Goes.trans {S1 S2 : St} {η1 η2 : Names} {w1 w2 : World} (h : Goes P base S η w S1 η1 w1) (k : Goes P base S1 η1 w1 S2 η2 w2) : Goes P base S η w S2 η2 w2 := ⟨k.mem, h.keep.trans k.keep, h.below.trans k.below⟩
theorem Goes.rep {S' : St} {η' : Names} {w' : World} (h : Goes P base S η w S' η' w') {d : D} {v : Value} (hr : Rep P w η (Fix P S η) d v) : Rep P w' η' (Fix P S' η') d v := Rep.keep h.keep (D.all_true d) hr
theorem Goes.repL {S' : St} {η' : Names} {w' : World} (h : Goes P base S η w S' η' w') {d : List D} {v : List Value} (hr : RepL P w η (Fix P S η) d v) : RepL P w' η' (Fix P S' η') d v := RepL.keep h.keep (allL_true d) hr
theorem Goes.repF {S' : St} {η' : Names} {w' : World} (h : Goes P base S η w S' η' w') {f : Fm} {a : Act} (hr : RepF P w η (Fix P S η) f a) : RepF P w' η' (Fix P S' η') f a := fun t ht => h.rep (hr t ht)

/-- A draw. -/
theorem goes_drew (h : Mem P base S η w) : Goes P base S η w S η w.drew := by
  have K : Keep (fun _ => True) w η (Fix P S η) w.drew η (Fix P S η) := ⟨Nat.le_refl _, fun _ _ _ hx => ⟨hx, rfl⟩, fun _ _ _ hx => hx, fun _ cur _ hx => ⟨cur, hx, rfl⟩⟩
  refine ⟨⟨h.base_, h.dead, h.fresh, h.live, h.inj, h.in_, fun k t cs b h1 h2 => ?_, h.row⟩, K, (Below.refl _ _).drew⟩
  obtain ⟨vs, k1, k2, k3⟩ := h.box k t cs b h1 h2
  exact ⟨vs, k1, RepL.keep K (allL_true _) k2, k3⟩
/-- A block of nobody's. -/
theorem goes_new (h : Mem P base S η w) (o : Obj) : Goes P base S η w S η (w.alloc o) := by
  have K : Keep (fun _ => True) w η (Fix P S η) (w.alloc o) η (Fix P S η) := ⟨by simp, fun b i hb hx => ⟨hx, World.cell?_alloc_lt w o _ hb⟩, fun _ _ _ hx => hx, fun b cur _ hx => ⟨cur, by rw [Below.heap_alloc w o b ((Array.getElem?_eq_some_iff.1 hx).1)]; exact hx, rfl⟩⟩
  have hlt : ∀ k b, η k = some (some b) → (w.alloc o).heap[b]? = w.heap[b]? := fun k b hk => Below.heap_alloc w o b (h.in_ k b hk).2
  refine ⟨⟨by simp; have := h.base_; omega, h.dead, h.fresh, h.live, h.inj, fun k b hk => ⟨(h.in_ k b hk).1, by simp; have := (h.in_ k b hk).2; omega⟩, fun k t cs b h1 h2 => ?_, fun k e n b h1 h2 => ?_⟩, K, (Below.refl _ _).alloc h.base_ o⟩
  · obtain ⟨vs, k1, k2, k3⟩ := h.box k t cs b h1 h2
    exact ⟨vs, (hlt k b h2).trans k1, RepL.keep K (allL_true _) k2, k3⟩
  · obtain ⟨cur, k1, k2⟩ := h.row k e n b h1 h2
    exact ⟨cur, (hlt k b h2).trans k1, k2⟩
/-- The names behind a new block. -/
def Names.add (η : Names) (k : Nat) (b : Option Nat) : Names := fun j => if j = k then some b else η j
/-- A new block under a new name: a variable or a row. -/
theorem goes_name (h : Mem P base S η w) (o : Ob) (cur : Array Value) (t : TypeId)
    (ho : (∃ cs vs, o = .box t cs ∧ cur = (vs : List Value).toArray ∧ RepL P w η (Fix P S η) cs vs ∧ ∀ x ∈ vs, x.oneCell' = true) ∨ ∃ n, o = .row t n ∧ n * szOf P t ≤ cur.size) :
    Goes P base S η w (S.add o) (η.add S.next (some w.heap.size)) (w.alloc (.cells cur t)) := by
  have hd := h.dead S.next (Nat.le_refl _)
  have hold : ∀ k b, η k = some b → k ≠ S.next := fun k b hk e => by subst e; rw [hd] at hk; cases hk
  have K : Keep (fun _ => True) w η (Fix P S η) (w.alloc (.cells cur t)) (η.add S.next (some w.heap.size)) (Fix P (S.add o) (η.add S.next (some w.heap.size))) := by
    refine ⟨by simp, fun b i hb hx => ⟨fun k o' hk hk' => ?_, World.cell?_alloc_lt w _ _ hb⟩, fun k b _ hk => ?_, fun b c _ hx => ⟨c, by rw [Below.heap_alloc w _ b ((Array.getElem?_eq_some_iff.1 hx).1)]; exact hx, rfl⟩⟩
    · simp only [Names.add, St.add] at hk hk'
      by_cases e : k = S.next
      · rw [if_pos e] at hk; injection hk with hk; injection hk with hk; omega
      · rw [if_neg e] at hk hk'
        exact hx k o' hk hk'
    · simp only [Names.add]; rw [if_neg (hold k b hk)]; exact hk
  have hlt : ∀ k b, η k = some (some b) → (w.alloc (.cells cur t)).heap[b]? = w.heap[b]? := fun k b hk => Below.heap_alloc w _ b (h.in_ k b hk).2
  refine ⟨⟨by simp; have := h.base_; omega, fun k hk => ?_, fun k hk => ?_, fun k t' cs hk => ?_, fun k k' b h1 h2 h3 h4 => ?_, fun k b hk => ?_, fun k t' cs b h1 h2 => ?_, fun k e n b h1 h2 => ?_⟩, K, (Below.refl _ _).alloc h.base_ _⟩
  · have hk' : S.next + 1 ≤ k := hk
    simp only [Names.add]; rw [if_neg (by omega)]; exact h.dead k (by omega)
  · have hk' : S.next + 1 ≤ k := hk
    simp only [St.add]; rw [if_neg (by omega)]; exact h.fresh k (by omega)
  · simp only [Names.add]
    by_cases e : k = S.next
    · exact ⟨_, if_pos e⟩
    · simp only [St.add] at hk
      rw [if_neg e] at hk ⊢
      exact h.live k t' cs hk
  · simp only [Names.add, St.add] at h1 h2 h3 h4
    by_cases e : k = S.next <;> by_cases e' : k' = S.next
    · omega
    · rw [if_pos e] at h1; rw [if_neg e'] at h2
      injection h1 with h1
      injection h1 with h1
      have := (h.in_ k' b h2).2
      omega
    · rw [if_neg e] at h1; rw [if_pos e'] at h2
      injection h2 with h2
      injection h2 with h2
      have := (h.in_ k b h1).2
      omega
    · rw [if_neg e] at h1 h3; rw [if_neg e'] at h2 h4
      exact h.inj k k' b h1 h2 h3 h4
  · simp only [Names.add] at hk
    by_cases e : k = S.next
    · rw [if_pos e] at hk; injection hk with hk; injection hk with hk; subst hk; exact ⟨h.base_, by simp⟩
    · rw [if_neg e] at hk
      exact ⟨(h.in_ k b hk).1, by simp; have := (h.in_ k b hk).2; omega⟩
  · simp only [Names.add, St.add] at h1 h2
    by_cases e : k = S.next
    · rw [if_pos e] at h1 h2
      injection h1 with h1; injection h2 with h2; injection h2 with h2
      subst h1 h2
      rcases ho with ⟨cs', vs, ho, rfl, hr, h5⟩ | ⟨n, ho, _⟩
      · injection ho with ho1 ho2
        subst ho1 ho2
        exact ⟨vs, heap_alloc_new w _, RepL.keep K (allL_true _) hr, h5⟩
      · cases ho
    · rw [if_neg e] at h1 h2
      obtain ⟨vs, k1, k2, k3⟩ := h.box k t' cs b h1 h2
      exact ⟨vs, (hlt k b h2).trans k1, RepL.keep K (allL_true _) k2, k3⟩
  · simp only [Names.add, St.add] at h1 h2
    by_cases e' : k = S.next
    · rw [if_pos e'] at h1 h2
      injection h1 with h1; injection h2 with h2; injection h2 with h2
      subst h1 h2
      rcases ho with ⟨cs', vs, ho, _⟩ | ⟨n', ho, hn⟩
      · cases ho
      · injection ho with ho1 ho2
        subst ho1 ho2
        exact ⟨cur, heap_alloc_new w _, hn⟩
    · rw [if_neg e'] at h1 h2
      obtain ⟨c, k1, k2⟩ := h.row k e n b h1 h2
      exact ⟨c, (hlt k b h2).trans k1, k2⟩
/-- A store into a variable of the call's own. -/
theorem goes_set (h : Mem P base S η w) {k b : Nat} {t : TypeId} {cs cs' : List D} {vs' : List Value} (hk : S.ob k = some (.box t cs)) (hb : η k = some (some b)) (hl : cs'.length = cs.length) (hr : RepL P w η (Fix P S η) cs' vs') (h1 : ∀ x ∈ vs', x.oneCell' = true) :
    Goes P base S η w (S.set k (.box t cs')) η (w.setRow b vs'.toArray) := by
  obtain ⟨vs, g1, g2, g3⟩ := h.box k t cs b hk hb
  have hsz : vs'.toArray.size = vs.toArray.size := by simp [hr.length, g2.length, hl]
  have K : Keep (fun _ => True) w η (Fix P S η) (w.setRow b vs'.toArray) η (Fix P (S.set k (.box t cs')) η) := by
    refine ⟨by simp, fun q i hq hx => ?_, fun _ _ _ hx => hx, fun q c e hx => ?_⟩
    · have hne : q ≠ b := fun e => by subst e; exact hx k _ hb hk
      refine ⟨fun j o hj hj' => ?_, cell_setRow_other w b _ _ hne⟩
      simp only [St.set] at hj'
      by_cases e : j = k
      · subst e; rw [hj] at hb; injection hb with hb; injection hb with hb; exact absurd hb hne
      · rw [if_neg e] at hj'; exact hx j o hj hj'
    · by_cases e' : q = b
      · subst e'
        rw [g1] at hx
        injection hx with hx
        injection hx with hx1 hx2
        subst hx1 hx2
        exact ⟨_, setRow_heap w q _ _ t _ g1, hsz⟩
      · exact ⟨c, by rw [setRow_other w b q _ e']; exact hx, rfl⟩
  have hlive : (S.ob k).isSome = true := by rw [hk]; rfl
  refine ⟨⟨by simpa using h.base_, h.dead, fun j hj => ?_, fun j t' c' hj => ?_, fun j j' q h1 h2 h3 h4 => ?_, fun j q hj => by simpa using h.in_ j q hj, fun j t' c' q hj hj' => ?_, fun j e n q hj hj' => ?_⟩, K, below_setRow (Below.refl _ _) (h.in_ k b hb).1 _⟩
  · have hj' : S.next ≤ j := hj
    have : j ≠ k := fun e => by subst e; rw [h.fresh j hj'] at hk; cases hk
    simp only [St.set]; rw [if_neg this]; exact h.fresh j hj'
  · simp only [St.set] at hj
    by_cases e : j = k
    · subst e; exact ⟨b, hb⟩
    · rw [if_neg e] at hj; exact h.live j t' c' hj
  · have live : ∀ i, ((S.set k (.box t cs')).ob i).isSome = true → (S.ob i).isSome = true := fun i hi => by
      simp only [St.set] at hi
      by_cases e : i = k
      · subst e; exact hlive
      · rwa [if_neg e] at hi
    exact h.inj j j' q h1 h2 (live j h3) (live j' h4)
  · simp only [St.set] at hj
    by_cases e : j = k
    · subst e
      rw [if_pos rfl] at hj
      injection hj with hj
      injection hj with hj1 hj2
      subst hj1 hj2
      rw [hb] at hj'
      injection hj' with hj'
      injection hj' with hj'
      subst hj'
      exact ⟨vs', setRow_heap w b _ _ t _ g1, RepL.keep K (allL_true _) hr, h1⟩
    · rw [if_neg e] at hj
      obtain ⟨us, k1, k2, k3⟩ := h.box j t' c' q hj hj'
      have hne : q ≠ b := fun e' => by subst e'; exact e (h.inj j k q hj' hb (by rw [hj]; rfl) hlive)
      exact ⟨us, by rw [setRow_other w b q _ hne]; exact k1, RepL.keep K (allL_true _) k2, k3⟩
  · simp only [St.set] at hj
    by_cases e' : j = k
    · subst e'; rw [if_pos rfl] at hj; cases hj
    · rw [if_neg e'] at hj
      obtain ⟨c, k1, k2⟩ := h.row j e n q hj hj'
      have hne : q ≠ b := fun e'' => by subst e''; exact e' (h.inj j k q hj' hb (by rw [hj]; rfl) hlive)
      exact ⟨c, by rw [setRow_other w b q _ hne]; exact k1, k2⟩
/-- A name is given up. -/
theorem goes_drop (h : Mem P base S η w) (g : Nat) : Goes P base S η w (S.drop g) η w := by
  have sub : ∀ k o, (S.drop g).ob k = some o → S.ob k = some o := fun k o hk => by
    simp only [St.drop] at hk
    by_cases e : k = g
    · rw [if_pos e] at hk; cases hk
    · rwa [if_neg e] at hk
  have subS : ∀ k, ((S.drop g).ob k).isSome = true → (S.ob k).isSome = true := fun k hk => by
    obtain ⟨o, ho⟩ := Option.isSome_iff_exists.1 hk
    rw [sub k o ho]; rfl
  have K : Keep (fun _ => True) w η (Fix P S η) w η (Fix P (S.drop g) η) := ⟨Nat.le_refl _, fun b i _ hx => ⟨fun k o hk hk' => hx k o hk (sub k o hk'), rfl⟩, fun _ _ _ hx => hx, fun _ c _ hx => ⟨c, hx, rfl⟩⟩
  refine ⟨⟨h.base_, h.dead, fun k hk => ?_, fun k t cs hk => h.live k t cs (sub _ _ hk), fun k k' b h1 h2 h3 h4 => h.inj k k' b h1 h2 (subS k h3) (subS k' h4), h.in_, fun k t cs b h1 h2 => ?_, fun k e n b h1 h2 => h.row k e n b (sub _ _ h1) h2⟩, K, Below.refl _ _⟩
  · have := h.fresh k hk
    simp only [St.drop]
    rw [this]; split <;> rfl
  · obtain ⟨vs, k1, k2, k3⟩ := h.box k t cs b (sub _ _ h1) h2
    exact ⟨vs, k1, RepL.keep K (allL_true _) k2, k3⟩
theorem goes_leave (h : Mem P base S η w) (o : Own) : Goes P base S η w (S.leave o) η w := by
  cases o with
  | row g => exact goes_drop h g
  | no => exact Goes.refl h
  | full => exact Goes.refl h
/-- A row without room has a name, and no block. -/
theorem goes_bare (h : Mem P base S η w) (e : TypeId) (n : Nat) : Goes P base S η w (S.add (.row e n)) (η.add S.next none) w := by
  have hd := h.dead S.next (Nat.le_refl _)
  have hold : ∀ k b, η k = some b → k ≠ S.next := fun k b hk e => by subst e; rw [hd] at hk; cases hk
  have old : ∀ k b, (η.add S.next none) k = some (some b) → k ≠ S.next ∧ η k = some (some b) := fun k b hk => by
    simp only [Names.add] at hk
    by_cases e' : k = S.next
    · rw [if_pos e'] at hk; injection hk with hk; cases hk
    · rw [if_neg e'] at hk; exact ⟨e', hk⟩
  have sub : ∀ k o, k ≠ S.next → (S.add (.row e n)).ob k = some o → S.ob k = some o := fun k o hk hk' => by
    simp only [St.add] at hk'
    rwa [if_neg hk] at hk'
  have subS : ∀ k, k ≠ S.next → ((S.add (.row e n)).ob k).isSome = true → (S.ob k).isSome = true := fun k hk hk' => by
    obtain ⟨o, ho⟩ := Option.isSome_iff_exists.1 hk'
    rw [sub k o hk ho]; rfl
  have K : Keep (fun _ => True) w η (Fix P S η) w (η.add S.next none) (Fix P (S.add (.row e n)) (η.add S.next none)) :=
    ⟨Nat.le_refl _, fun b i _ hx => ⟨fun k o hk hk' => hx k o (old k b hk).2 (sub k o (old k b hk).1 hk'), rfl⟩, fun k b _ hk => by simp only [Names.add]; rw [if_neg (hold k b hk)]; exact hk, fun _ c _ hx => ⟨c, hx, rfl⟩⟩
  refine ⟨⟨h.base_, fun k hk => ?_, fun k hk => ?_, fun k t cs hk => ?_, fun k k' b h1 h2 h3 h4 => h.inj k k' b (old k b h1).2 (old k' b h2).2 (subS k (old k b h1).1 h3) (subS k' (old k' b h2).1 h4), fun k b hk => h.in_ k b (old k b hk).2, fun k t cs b h1 h2 => ?_, fun k e n b h1 h2 => h.row k e n b (sub _ _ (old k b h2).1 h1) (old k b h2).2⟩, K, Below.refl _ _⟩
  · have hk' : S.next + 1 ≤ k := hk
    simp only [Names.add]; rw [if_neg (by omega)]; exact h.dead k (by omega)
  · have hk' : S.next + 1 ≤ k := hk
    simp only [St.add]; rw [if_neg (by omega)]; exact h.fresh k (by omega)
  · by_cases e' : k = S.next
    · simp only [St.add] at hk; rw [if_pos e'] at hk; cases hk
    · obtain ⟨b, hb⟩ := h.live k t cs (sub k _ e' hk)
      exact ⟨b, by simp only [Names.add]; rw [if_neg e']; exact hb⟩
  · obtain ⟨vs, k1, k2, k3⟩ := h.box k t cs b (sub _ _ (old k b h2).1 h1) (old k b h2).2
    exact ⟨vs, k1, RepL.keep K (allL_true _) k2, k3⟩
theorem grow_ob (S : St) (g : Nat) (e : TypeId) (n k : Nat) : (S.grow (.row g) e n).ob k = if k = S.next then some (.row e n) else if k = g then none else S.ob k := rfl
/-- A row grows in its own room, under a new name. -/
theorem goes_room (h : Mem P base S η w) {g b n n' : Nat} {e : TypeId} {cur cur' : Array Value} (hg : S.ob g = some (.row e n)) (hb : η g = some (some b)) (hc : w.heap[b]? = some (.cells cur e (0, 0))) (hs : cur'.size = cur.size)
    (hsame : ∀ j, j < n * szOf P e → cur'[j]? = cur[j]?) (hn : n ≤ n') (hn' : n' * szOf P e ≤ cur.size) :
    Goes P base S η w (S.grow (.row g) e n') (η.add S.next (some b)) (w.setRow b cur') := by
  have hd := h.dead S.next (Nat.le_refl _)
  have hold : ∀ k c, η k = some c → k ≠ S.next := fun k c hk e => by subst e; rw [hd] at hk; cases hk
  have hlive : (S.ob g).isSome = true := by rw [hg]; rfl
  have sub : ∀ k o, k ≠ S.next → (S.grow (.row g) e n').ob k = some o → S.ob k = some o ∧ k ≠ g := fun k o hk hk' => by
    rw [grow_ob] at hk'
    rw [if_neg hk] at hk'
    by_cases e' : k = g
    · rw [if_pos e'] at hk'; cases hk'
    · rw [if_neg e'] at hk'; exact ⟨hk', e'⟩
  have subS : ∀ k, k ≠ S.next → ((S.grow (.row g) e n').ob k).isSome = true → (S.ob k).isSome = true ∧ k ≠ g := fun k hk hk' => by
    obtain ⟨o, ho⟩ := Option.isSome_iff_exists.1 hk'
    obtain ⟨h1, h2⟩ := sub k o hk ho
    exact ⟨by rw [h1]; rfl, h2⟩
  have at_ : (S.grow (.row g) e n').ob S.next = some (.row e n') := by rw [grow_ob, if_pos rfl]
  have K : Keep (fun _ => True) w η (Fix P S η) (w.setRow b cur') (η.add S.next (some b)) (Fix P (S.grow (.row g) e n') (η.add S.next (some b))) := by
    refine ⟨by simp, fun q i hq hx => ?_, fun k c _ hk => ?_, fun q c e' hx => ?_⟩
    · refine ⟨fun k o hk hk' => ?_, ?_⟩
      · by_cases e' : k = S.next
        · subst e'
          rw [at_] at hk'
          injection hk' with hk'
          subst hk'
          simp only [Names.add, ↓reduceIte] at hk
          injection hk with hk
          injection hk with hk
          subst hk
          have := hx g _ hb hg
          exact Nat.lt_of_lt_of_le this (Nat.mul_le_mul_right _ hn)
        · simp only [Names.add] at hk
          rw [if_neg e'] at hk
          exact hx k o hk (sub k o e' hk').1
      · by_cases e' : q = b
        · subst e'
          have := hx g _ hb hg
          rw [cell_setRow_same w q i _ _ e _ hc, cell_of_row w q i cur e (0, 0) hc]
          exact hsame i this
        · exact cell_setRow_other w b _ _ e'
    · simp only [Names.add]; rw [if_neg (hold k c hk)]; exact hk
    · by_cases e'' : q = b
      · subst e''
        rw [hc] at hx
        injection hx with hx
        injection hx with hx1 hx2
        subst hx1 hx2
        exact ⟨cur', setRow_heap w q _ _ e _ hc, hs⟩
      · exact ⟨c, by rw [setRow_other w b q _ e'']; exact hx, rfl⟩
  refine ⟨⟨by simpa using h.base_, fun k hk => ?_, fun k hk => ?_, fun k t cs hk => ?_, fun k k' q h1 h2 h3 h4 => ?_, fun k q hk => ?_, fun k t cs q h1 h2 => ?_, fun k e' m q h1 h2 => ?_⟩, K, below_setRow (Below.refl _ _) (h.in_ g b hb).1 _⟩
  · have hk' : S.next + 1 ≤ k := hk
    simp only [Names.add]; rw [if_neg (by omega)]; exact h.dead k (by omega)
  · have hk' : S.next + 1 ≤ k := hk
    rw [grow_ob, if_neg (by omega)]
    rw [h.fresh k (by omega)]; split <;> rfl
  · by_cases e' : k = S.next
    · subst e'; rw [at_] at hk; cases hk
    · obtain ⟨c, hc'⟩ := h.live k t cs (sub k _ e' hk).1
      exact ⟨c, by simp only [Names.add]; rw [if_neg e']; exact hc'⟩
  · simp only [Names.add] at h1 h2
    by_cases e' : k = S.next <;> by_cases e'' : k' = S.next
    · omega
    · rw [if_pos e'] at h1; rw [if_neg e''] at h2
      injection h1 with h1
      injection h1 with h1
      subst h1
      have := subS k' e'' h4
      exact absurd (h.inj k' g b h2 hb this.1 hlive) this.2
    · rw [if_neg e'] at h1; rw [if_pos e''] at h2
      injection h2 with h2
      injection h2 with h2
      subst h2
      have := subS k e' h3
      exact absurd (h.inj k g b h1 hb this.1 hlive) this.2
    · rw [if_neg e'] at h1; rw [if_neg e''] at h2
      exact h.inj k k' q h1 h2 (subS k e' h3).1 (subS k' e'' h4).1
  · simp only [Names.add] at hk
    by_cases e' : k = S.next
    · rw [if_pos e'] at hk; injection hk with hk; injection hk with hk; subst hk; simpa using h.in_ g b hb
    · rw [if_neg e'] at hk; simpa using h.in_ k q hk
  · by_cases e' : k = S.next
    · subst e'; rw [at_] at h1; cases h1
    · simp only [Names.add] at h2
      rw [if_neg e'] at h2
      obtain ⟨s1, s2⟩ := sub k _ e' h1
      obtain ⟨vs, k1, k2, k3⟩ := h.box k t cs q s1 h2
      have hne : q ≠ b := fun e'' => by subst e''; exact s2 (h.inj k g q h2 hb (by rw [s1]; rfl) hlive)
      exact ⟨vs, by rw [setRow_other w b q _ hne]; exact k1, RepL.keep K (allL_true _) k2, k3⟩
  · by_cases e'' : k = S.next
    · subst e''
      rw [at_] at h1
      injection h1 with h1
      injection h1 with h1a h1b
      subst h1a h1b
      simp only [Names.add, ↓reduceIte] at h2
      injection h2 with h2
      injection h2 with h2
      subst h2
      exact ⟨cur', setRow_heap w b _ _ e _ hc, by rw [hs]; exact hn'⟩
    · simp only [Names.add] at h2
      rw [if_neg e''] at h2
      obtain ⟨s1, s2⟩ := sub k _ e'' h1
      obtain ⟨c, k1, k2⟩ := h.row k e' m q s1 h2
      have hne : q ≠ b := fun e3 => by subst e3; exact s2 (h.inj k g q h2 hb (by rw [s1]; rfl) hlive)
      exact ⟨c, by rw [setRow_other w b q _ hne]; exact k1, k2⟩

def flat (es : List D) : List D := es.flatMap D.cells
def zeroT (P : Program) (e : TypeId) : Bool := match P.info? e with
  | some i => match i.zero with
    | some z => z.cells.size == i.size && decide (0 < i.size)
    | none => false
  | none => false
def bytesOf (P : Program) (e : TypeId) : Nat := ((P.info? e).map (·.bytes)).getD 0
theorem zeroT_spec {e : TypeId} (h : zeroT P e = true) : ∃ i z, P.info? e = some i ∧ i.zero = some z ∧ z.cells.size = i.size ∧ 0 < i.size ∧ szOf P e = i.size ∧ bytesOf P e = i.bytes := by
  unfold zeroT at h
  split at h
  · rename_i i hi
    split at h
    · rename_i z hz
      simp at h
      exact ⟨i, z, hi, hz, h.1, h.2, by simp [szOf, hi], by simp [bytesOf, hi]⟩
    · cases h
  · cases h
section
variable {X : Nat → Nat → Prop}
theorem dflat_length {z : Nat} : ∀ {es : List D}, (∀ d ∈ es, d.width = z) → (flat es).length = es.length * z
  | [], _ => by simp [flat]
  | d :: es, h => by
    have h1 := dflat_length (es := es) fun d' hd => h d' (by simp [hd])
    have h2 : d.cells.length = z := h d (by simp)
    simp only [flat, List.flatMap_cons, List.length_append, List.length_cons] at *
    rw [h1, h2, Nat.add_mul]; omega
theorem RepC.append {w : World} {η : Names} {X : Nat → Nat → Prop} : ∀ {l m : List D} {b o : Nat}, RepC P w η X l b o → RepC P w η X m b (o + l.length) → RepC P w η X (l ++ m) b o
  | [], m, b, o, _, h => by simpa using h
  | d :: l, m, b, o, h, k => by
    simp only [RepC, List.cons_append] at *
    exact ⟨h.1, RepC.append h.2 (by rwa [show o + 1 + l.length = o + (d :: l).length by simp; omega])⟩
theorem RepC.left {w : World} {η : Names} {X : Nat → Nat → Prop} : ∀ {l m : List D} {b o : Nat}, RepC P w η X (l ++ m) b o → RepC P w η X l b o ∧ RepC P w η X m b (o + l.length)
  | [], m, b, o, h => ⟨by simp [RepC], by simpa using h⟩
  | d :: l, m, b, o, h => by
    simp only [RepC, List.cons_append] at *
    obtain ⟨h1, h2⟩ := RepC.left h.2
    exact ⟨⟨h.1, h1⟩, by rwa [show o + (d :: l).length = o + 1 + l.length by simp; omega]⟩
theorem RepE.flat {w : World} {η : Names} {X : Nat → Nat → Prop} {z : Nat} : ∀ {es : List D} {b o : Nat}, RepE P w η X z es b o → (∀ d ∈ es, d.width = z) ∧ RepC P w η X (flat es) b o
  | [], b, o, _ => ⟨fun d h => (by cases h), by simp [Proofs.Ytpnjkebjdclkfaa.flat, RepC]⟩
  | d :: es, b, o, h => by
    obtain ⟨h1, h2⟩ := RepE.cons.1 h
    obtain ⟨h3, h4⟩ := RepE.flat h2
    have h5 := h1.cells
    refine ⟨fun d' hd => ?_, ?_⟩
    · rcases List.mem_cons.1 hd with rfl | hd
      · exact h5.1
      · exact h3 d' hd
    · simp only [Proofs.Ytpnjkebjdclkfaa.flat, List.flatMap_cons]
      refine RepC.append h5.2 ?_
      have : d.cells.length = z := h5.1
      rw [this]
      exact h4
theorem RepE.of_flat {w : World} {η : Names} {X : Nat → Nat → Prop} {z : Nat} : ∀ {es : List D} {b o : Nat}, (∀ d ∈ es, d.width = z) → RepC P w η X (Proofs.Ytpnjkebjdclkfaa.flat es) b o → RepE P w η X z es b o
  | [], b, o, _, _ => by simp [RepE]
  | d :: es, b, o, hw, h => by
    simp only [Proofs.Ytpnjkebjdclkfaa.flat, List.flatMap_cons] at h
    obtain ⟨h1, h2⟩ := RepC.left h
    have hz : d.width = z := hw d (by simp)
    have := RepEl.mk h1
    rw [hz] at this
    refine RepE.cons.2 ⟨this, RepE.of_flat (fun d' hd => hw d' (by simp [hd])) ?_⟩
    have e : d.cells.length = z := hz
    rw [e] at h2
    exact h2
/-- A slice as a source of cells. -/
theorem rep_src {own : Own} {es : List D} {v : Value} {tx : TypeId} {z : Nat} (hz : 0 < z) (h : Rep P w η X (.sl own es) v) (ht : (elT P tx).isSome = true) (hw : ∀ d ∈ es, d.width = z) :
    ∃ news, Src P z tx v es.length news w ∧ RepL P w η X (flat es) news ∧ (∀ x ∈ news, x.oneCell' = true) ∧ ∃ A c, v = .slice A es.length c ∧ es.length ≤ c ∧ OwnAt P w η A es.length c own ∧ (0 < es.length → ∃ b o, A = some ⟨b, o, none⟩ ∧ w.rangeAt b o news ∧ ∀ j, j < news.length → X b (o + j)) := by
  simp only [Rep] at h
  obtain ⟨A, c, rfl, h1, h2, h3, h4⟩ := h
  obtain ⟨e', he'⟩ := Option.isSome_iff_exists.1 ht
  have hk := elT_spec he'
  rcases Nat.eq_zero_or_pos es.length with h0 | h0
  · have : es = [] := List.eq_nil_of_length_eq_zero h0
    subst this
    refine ⟨[], ?_, by simp [flat, RepL], (fun x hx => by cases hx), A, c, rfl, h1, h3, fun hn => absurd hn (by simp)⟩
    cases A with
    | none => exact Src.ofNil w hk c
    | some a => exact Src.ofSlice w hk a 0 c [] (by simp) (fun j u hu => by simp at hu) (fun u hu => by cases hu)
  · obtain ⟨b, o, z', rfl, hz', hr⟩ := h4 h0
    obtain ⟨k1, k2⟩ := RepE.flat hr
    obtain ⟨vs, g1, g2, g3, g4⟩ := k2.range
    have hl : vs.length = es.length * z := by rw [g1, dflat_length hw]
    refine ⟨vs, Src.ofSlice w hk _ _ c vs hl (fun j u hu => by rw [Addr.add_mid]; exact g2 j u hu) g4, g3, g4, _, c, rfl, h1, h3, fun _ => ⟨b, o, rfl, g2, fun j hj => ?_⟩⟩
    have : ∀ {l : List D} {o j : Nat}, RepC P w η X l b o → j < l.length → X b (o + j) := by
      intro l
      induction l with
      | nil => intro o j _ hj; simp at hj
      | cons d l ih =>
        intro o j h hj
        simp only [RepC] at h
        cases j with
        | zero => exact h.1.1
        | succ j => have := ih h.2 (by simpa using hj : j < l.length); rwa [show o + 1 + j = o + (j + 1) by omega] at this
    exact this k2 (by omega)
end
theorem run_append_room_row (w : World) (t tx ty e : TypeId) (i : TypeInfo) (ht : P.underlying t = some (.slice e)) (hi : P.info? e = some i) (b sLen sCap : Nat) (x : Value) (n : Nat) (news : List Value) (hs : Src P i.size tx x n news w)
    (cur : Array Value) (hg : w.heap[b]? = some (.cells cur e (0, 0))) (hroom : sLen + n ≤ sCap) (hfit : sLen * i.size + news.length ≤ cur.size) :
    (Builtin.append_ #[t, tx] ty #[.slice (some ⟨b, 0, none⟩) sLen sCap, x]).run P w = .ok (.slice (some ⟨b, 0, none⟩) (sLen + n) sCap) (w.setRow b (cur.toList.take (sLen * i.size) ++ news ++ cur.toList.drop (sLen * i.size + news.length)).toArray) := by
  have hst := run_storeCells_at P b (sLen * i.size) e news 0 cur w hg (by simpa using hfit) hs.one
  simp only [Nat.add_zero] at hst
  rcases hs.kind with ⟨e', hk⟩ | hk <;> simp [Builtin.append_, run_underlying ht, run_underlying hk, sizeOf, typeInfo, hi, hs.len, hroom, hs.cells, Addr.add_lit, hst]

theorem append_step (hM : Mem P base S η w) {own own2 : Own} {es es2 : List D} {v x : Value} {t tx ty e : TypeId} (hv : Rep P w η (Fix P S η) (.sl own es) v) (hx : Rep P w η (Fix P S η) (.sl own2 es2) x)
    (ht : elT P t = some e) (htx : (elT P tx).isSome = true) (hz : zeroT P e = true) (hw1 : ∀ d ∈ es, d.width = szOf P e) (hw2 : ∀ d ∈ es2, d.width = szOf P e)
    (hown : own = .full ∨ ∃ g, own = .row g ∧ S.ob g = some (.row e es.length)) (hlen : es.length + es2.length ≤ 140737488355328) (hby : (es.length + es2.length) * bytesOf P e ≤ 140737488355328) :
    ∃ v' η' w', (Builtin.append_ #[t, tx] ty #[v, x]).run P w = .ok v' w' ∧ Goes P base S η w (S.grow own e (es.length + es2.length)) η' w' ∧ Rep P w' η' (Fix P (S.grow own e (es.length + es2.length)) η') (.sl (.row S.next) (es ++ es2)) v' := by
  obtain ⟨i, z, hi, hzr, hzs, hpos, hsz, hbz⟩ := zeroT_spec hz
  have hu := elT_spec ht
  have hpos' : 0 < szOf P e := by omega
  obtain ⟨news, hs, hr, h1, A2, c2, hx2, _, _, _⟩ := rep_src (tx := tx) hpos' hx htx hw2
  obtain ⟨olds, hso, hro, h1o, A, c, rfl, hc, ho, hA⟩ := rep_src (tx := t) hpos' hv (by rw [ht]; rfl) hw1
  have hlo := hso.newsLen
  have hln := hs.newsLen
  have hnext : (S.leave own).next = S.next := by cases own <;> rfl
  rw [hsz] at hs hso hlo hln
  by_cases hgrow : c < es.length + es2.length
  · -- a new row
    have hcold := hso.cellsD
    have hrun := run_append_grow_src (P := P) w t tx ty e i z hu hi hzr A es.length c olds hcold x es2.length news hs hgrow (by omega) (growslice_fits hgrow (by rw [← hbz]; exact hby))
    have G1 := goes_drew hM
    have G2 := G1.trans (goes_leave G1.mem own)
    have hge := grownCap_ge w (es.length + es2.length) c e
    have hsize : ((olds ++ news).toArray ++ Builtin.zeroCells z.cells (grownCap w (es.length + es2.length) c e - (es.length + es2.length))).size = grownCap w (es.length + es2.length) c e * szOf P e := by
      rw [Array.size_append, List.size_toArray, size_zeroCells, hzs, hsz, List.length_append, hlo, hln, ← Nat.add_mul, ← Nat.add_mul]
      congr 1; omega
    have G3 := G2.trans (goes_name G2.mem (.row e (es.length + es2.length)) ((olds ++ news).toArray ++ Builtin.zeroCells z.cells (grownCap w (es.length + es2.length) c e - (es.length + es2.length))) e (.inr ⟨_, rfl, by rw [hsize]; exact Nat.mul_le_mul_right _ hge⟩))
    refine ⟨_, _, _, hrun, G3, ?_⟩
    simp only [Rep]
    have hnew := heap_alloc_new w.drew (.cells ((olds ++ news).toArray ++ Builtin.zeroCells z.cells (grownCap w (es.length + es2.length) c e - (es.length + es2.length))) e)
    have hη : (η.add (S.leave own).next (some w.drew.heap.size)) S.next = some w.heap.size := by simp only [Names.add, hnext, ↓reduceIte]; rfl
    refine ⟨_, _, by rw [List.length_append], by rw [List.length_append]; exact hge, by rw [List.length_append]; exact hlen, .inr ⟨w.heap.size, _, e, hη, rfl, hnew, hsize⟩, fun _ => ⟨w.heap.size, 0, szOf P e, rfl, hpos', ?_⟩⟩
    refine RepE.of_flat (fun d hd => (List.mem_append.1 hd).elim (hw1 d) (hw2 d)) ?_
    have hfl : flat (es ++ es2) = flat es ++ flat es2 := by simp [flat]
    rw [hfl]
    refine RepC.mk (RepL.append (G3.repL hro) (G3.repL hr)) (fun j u hj => ?_) (fun j hj => ?_) (fun u hu' => (List.mem_append.1 hu').elim (h1o u) (h1 u))
    · have := cell_of_row _ w.drew.heap.size (0 + j) _ e (0, 0) hnew
      rw [show (⟨w.heap.size, 0 + j, none⟩ : Addr) = ⟨w.drew.heap.size, 0 + j, none⟩ from rfl, this, Nat.zero_add]
      have hlt : j < (olds ++ news).length := (List.getElem?_eq_some_iff.1 hj).1
      rw [Array.getElem?_append_left (by simpa using hlt)]
      simpa using hj
    · intro k o hk hk'
      have hin := G2.mem.in_
      by_cases e' : k = S.next
      · subst e'
        simp only [St.grow, St.add, hnext, ↓reduceIte] at hk'
        injection hk' with hk'
        subst hk'
        have : j < (olds ++ news).length := hj
        rw [List.length_append, hlo, hln, ← Nat.add_mul] at this
        show 0 + j < (es.length + es2.length) * szOf P e
        rw [hsz]; omega
      · simp only [Names.add, hnext] at hk
        rw [if_neg e'] at hk
        have h2 : w.heap.size < w.heap.size := (hin k _ hk).2
        omega
  · -- there is room, or nothing comes
    have hle : es.length + es2.length ≤ c := by omega
    have virt : es2.length = 0 → c = es.length → ∃ v' η' w', (Builtin.append_ #[t, tx] ty #[.slice A es.length c, x]).run P w = .ok v' w' ∧ Goes P base S η w (S.grow own e (es.length + es2.length)) η' w' ∧ Rep P w' η' (Fix P (S.grow own e (es.length + es2.length)) η') (.sl (.row S.next) (es ++ es2)) v' := by
      intro h0 hcn
      have he2 : es2 = [] := List.eq_nil_of_length_eq_zero h0
      subst he2
      have hn0 : news = [] := List.eq_nil_of_length_eq_zero (by rw [hln]; simp)
      subst hn0
      have G2 := goes_leave hM own
      have G3 := G2.trans (goes_bare G2.mem e (es.length + ([] : List D).length))
      refine ⟨_, _, w, run_append_nothing w t tx ty e i hu hi A es.length c hc x hs, G3, ?_⟩
      have := G3.rep hv
      simp only [Rep] at this ⊢
      rw [List.append_nil]
      obtain ⟨A', c', e1, e2, e3, _, e5⟩ := this
      injection e1 with e1a e1b e1c
      subst e1a e1c
      exact ⟨A, c, rfl, e2, e3, .inl ⟨by simp only [Names.add, hnext, ↓reduceIte], hcn⟩, e5⟩
    rcases hown with rfl | ⟨g, rfl, hg⟩
    · have hcn : c = es.length := ho
      exact virt (by omega) hcn
    · rcases ho with hcn | ⟨b, cur, e', hb, rfl, hcur, hcs⟩
      · exact virt (by omega) hcn.2
      · obtain ⟨cur', k1, k2⟩ := hM.row g e es.length b hg hb
        rw [hcur] at k1
        injection k1 with k1
        injection k1 with k1a k1b
        subst k1a k1b
        have hfit : es.length * i.size + news.length ≤ cur.size := by
          rw [hln, hcs, hsz, ← Nat.add_mul]
          exact Nat.mul_le_mul_right _ hle
        have hrun := run_append_room_row w t tx ty e' i hu hi b es.length c x es2.length news hs cur hcur hle hfit
        have hsame : ∀ j, j < es.length * szOf P e' → (cur.toList.take (es.length * i.size) ++ news ++ cur.toList.drop (es.length * i.size + news.length)).toArray[j]? = cur[j]? := fun j hj => by
          rw [hsz] at hj
          have hl1 : j < (cur.toList.take (es.length * i.size)).length := by have hcl : cur.toList.length = cur.size := Array.length_toList; rw [List.length_take, hcl]; omega
          rw [List.getElem?_toArray, List.append_assoc, List.getElem?_append_left hl1, List.getElem?_take, if_pos hj, Array.getElem?_toList]
        have hcsz : (cur.toList.take (es.length * i.size) ++ news ++ cur.toList.drop (es.length * i.size + news.length)).toArray.size = cur.size := by
          simp only [List.size_toArray, List.length_append, List.length_take, List.length_drop, Array.length_toList]
          omega
        have G := goes_room hM hg hb hcur hcsz hsame (Nat.le_add_right _ es2.length) (by rw [hcs]; exact Nat.mul_le_mul_right _ hle)
        refine ⟨_, _, _, hrun, G, ?_⟩
        have hnew := setRow_heap w b cur (cur.toList.take (es.length * i.size) ++ news ++ cur.toList.drop (es.length * i.size + news.length)).toArray e' (0, 0) hcur
        simp only [Rep]
        refine ⟨_, c, by rw [List.length_append], by rw [List.length_append]; exact hle, by rw [List.length_append]; exact hlen, .inr ⟨b, _, e', by simp only [Names.add, ↓reduceIte], rfl, hnew, by rw [hcsz, hcs]⟩, fun _ => ⟨b, 0, szOf P e', rfl, hpos', ?_⟩⟩
        refine RepE.of_flat (fun d hd => (List.mem_append.1 hd).elim (hw1 d) (hw2 d)) ?_
        have hfl : flat (es ++ es2) = flat es ++ flat es2 := by simp [flat]
        rw [hfl]
        have hold : cur.toList.take (es.length * i.size) = olds := by
          apply List.ext_getElem?
          intro j
          rw [List.getElem?_take]
          by_cases hj : j < es.length * i.size
          · rw [if_pos hj]
            have h0 : 0 < es.length := by
              rcases Nat.eq_zero_or_pos es.length with h | h
              · rw [h] at hj; simp at hj
              · exact h
            obtain ⟨b', o', hA1, hA2, _⟩ := hA h0
            injection hA1 with hA1
            injection hA1 with hA1a hA1b
            subst hA1a hA1b
            have hlt : j < olds.length := by omega
            have h3 := hA2 j _ (List.getElem?_eq_getElem hlt)
            rw [Nat.zero_add, cell_of_row w b j cur e' (0, 0) hcur] at h3
            rw [Array.getElem?_toList, h3, List.getElem?_eq_getElem hlt]
          · rw [if_neg hj, List.getElem?_eq_none (by omega)]
        refine RepC.mk (RepL.append (G.repL hro) (G.repL hr)) (fun j u hj => ?_) (fun j hj => ?_) (fun u hu' => (List.mem_append.1 hu').elim (h1o u) (h1 u))
        · rw [cell_of_row _ b (0 + j) _ e' (0, 0) hnew, Nat.zero_add, hold]
          have hlt : j < (olds ++ news).length := (List.getElem?_eq_some_iff.1 hj).1
          rw [List.getElem?_toArray, List.getElem?_append_left hlt]
          exact hj
        · intro k o hk hk'
          by_cases e3 : k = S.next
          · subst e3
            rw [grow_ob, if_pos rfl] at hk'
            injection hk' with hk'
            subst hk'
            have : j < (olds ++ news).length := hj
            rw [List.length_append, hlo, hln, ← Nat.add_mul] at this
            show 0 + j < (es.length + es2.length) * szOf P e'
            rw [hsz]; omega
          · simp only [Names.add] at hk
            rw [if_neg e3] at hk
            rw [grow_ob, if_neg e3] at hk'
            by_cases e4 : k = g
            · rw [if_pos e4] at hk'; cases hk'
            · rw [if_neg e4] at hk'
              exact absurd (hM.inj k g b hk hb (by rw [hk']; rfl) (by rw [hg]; rfl)) e4
end
end Go.Proofs.Ytpnjkebjdclkfaa
