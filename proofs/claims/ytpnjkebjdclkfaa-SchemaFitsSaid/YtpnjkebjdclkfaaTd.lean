/- Data as trees: what a call's values say, apart from where they lie; and the memory that stands behind them. Conditions: none. -/
import Derived.Test.YtpnjkebjdclkfaaMem
import Derived.Deep.MidRow
namespace Go.Proofs.Ytpnjkebjdclkfaa
open Go.RowKit

/-- Whose is the room behind a slice's last element? -/
inductive Own where
  | no
  | full
  | row (g : Nat)
/-- A value as a tree; 'loc': the address of a variable of the call's own; 'rd': the address of cells that stay as they are. -/
inductive D where
  | v (x : Value)
  | agg (cs : List D)
  | tup (cs : List D)
  | fn (f : Fn) (fs cs : List D)
  | ifc (t : TypeId) (d : D)
  | loc (k off : Nat)
  | rd (cs : List D) (off : Nat)
  | sl (o : Own) (es : List D)
/-- What lies at a name of the call's own: a variable, or a row that may grow. -/
inductive Ob where
  | box (t : TypeId) (cs : List D)
  | row (e : TypeId) (n : Nat)
structure St where
  next : Nat
  ob : Nat → Option Ob

abbrev undefD : D := .tup []
def D.isAgg : D → Bool
  | .agg _ => true
  | _ => false
def D.cells : D → List D
  | .agg cs => cs
  | d => [d]
def D.width (d : D) : Nat := d.cells.length
def szOf (P : Program) (t : TypeId) : Nat := ((P.info? t).map (·.size)).getD 0

/-- The blocks behind names ('some none': a row without room, and without a block). -/
abbrev Names := Nat → Option (Option Nat)

/-- The cell is not written any more. -/
def Fix (P : Program) (S : St) (η : Names) (b i : Nat) : Prop := ∀ k o, η k = some (some b) → S.ob k = some o → match o with
  | .box _ _ => False
  | .row e n => i < n * szOf P e

section
variable (P : Program) (w : World) (η : Names) (X : Nat → Nat → Prop)
def OwnAt (A : Option Addr) (n c : Nat) : Own → Prop
  | .no => True
  | .full => c = n
  | .row g => (η g = some none ∧ c = n) ∨ ∃ (b : Nat) (cur : Array Value) (e : TypeId), η g = some (some b) ∧ A = some ⟨b, 0, none⟩ ∧ w.heap[b]? = some (.cells cur e (0, 0)) ∧ cur.size = c * szOf P e
mutual
def Rep : D → Value → Prop
  | .v x, y => y = x
  | .agg cs, y => ∃ vs : List Value, y = .agg vs.toArray ∧ RepL cs vs ∧ ∀ x ∈ vs, x.oneCell' = true
  | .tup cs, y => ∃ vs : List Value, y = .tuple vs.toArray ∧ RepL cs vs
  | .fn f fs cs, y => ∃ us vs : List Value, y = .func f us.toArray vs.toArray ∧ RepL fs us ∧ RepL cs vs
  | .ifc t d, y => ∃ x, y = .iface t x ∧ Rep d x
  | .loc k off, y => ∃ b, η k = some (some b) ∧ y = .pointer (some ⟨b, off, none⟩)
  | .rd cs off, y => ∃ b o, y = .pointer (some ⟨b, o + off, none⟩) ∧ RepC cs b o
  | .sl own es, y => ∃ A c, y = .slice A es.length c ∧ es.length ≤ c ∧ es.length ≤ 140737488355328 ∧ OwnAt P w η A es.length c own ∧ (0 < es.length → ∃ b o z, A = some ⟨b, o, none⟩ ∧ 0 < z ∧ RepE z es b o)
def RepL : List D → List Value → Prop
  | [], vs => vs = []
  | d :: ds, vs => ∃ x xs, vs = x :: xs ∧ Rep d x ∧ RepL ds xs
/-- The cells from (b, o) on. -/
def RepC : List D → Nat → Nat → Prop
  | [], _, _ => True
  | d :: ds, b, o => (X b o ∧ ∃ x, w.cell? ⟨b, o, none⟩ = some x ∧ x.oneCell' = true ∧ Rep d x) ∧ RepC ds b (o + 1)
/-- The elements of z cells each, from (b, o) on. -/
def RepE (z : Nat) : List D → Nat → Nat → Prop
  | [], _, _ => True
  | d :: ds, b, o => (RepA z d b o ∧ (d.isAgg = false → z = 1 ∧ X b o ∧ ∃ x, w.cell? ⟨b, o, none⟩ = some x ∧ x.oneCell' = true ∧ Rep d x)) ∧ RepE z ds b (o + z)
def RepA (z : Nat) : D → Nat → Nat → Prop
  | .agg cs, b, o => cs.length = z ∧ RepC cs b o
  | _, _, _ => True
end
end

/-- The names that a tree bears. -/
def Own.all (N : Nat → Prop) : Own → Prop
  | .row g => N g
  | _ => True
mutual
def D.all (N : Nat → Prop) : D → Prop
  | .v _ => True
  | .agg cs => allL N cs
  | .tup cs => allL N cs
  | .fn _ fs cs => allL N fs ∧ allL N cs
  | .ifc _ d => D.all N d
  | .loc k _ => N k
  | .rd cs _ => allL N cs
  | .sl o es => o.all N ∧ allL N es
def allL (N : Nat → Prop) : List D → Prop
  | [] => True
  | d :: ds => D.all N d ∧ allL N ds
end
theorem allL_iff {N : Nat → Prop} : ∀ {l : List D}, allL N l ↔ ∀ d ∈ l, d.all N
  | [] => by simp [allL]
  | d :: l => by simp [allL, allL_iff (l := l)]
theorem Own.all_mono {N M : Nat → Prop} (h : ∀ k, N k → M k) {o : Own} (ho : o.all N) : o.all M := by
  cases o <;> simp only [Own.all] at * <;> exact h _ ho
mutual
theorem D.all_mono {N M : Nat → Prop} (h : ∀ k, N k → M k) : ∀ {d : D}, d.all N → d.all M
  | .v _, hd => trivial
  | .agg cs, hd => by simp only [D.all] at *; exact allL_mono h hd
  | .tup cs, hd => by simp only [D.all] at *; exact allL_mono h hd
  | .fn _ fs cs, hd => by simp only [D.all] at *; exact ⟨allL_mono h hd.1, allL_mono h hd.2⟩
  | .ifc _ d, hd => by simp only [D.all] at *; exact D.all_mono h hd
  | .loc k _, hd => by simp only [D.all] at *; exact h _ hd
  | .rd cs _, hd => by simp only [D.all] at *; exact allL_mono h hd
  | .sl o es, hd => by simp only [D.all] at *; exact ⟨Own.all_mono h hd.1, allL_mono h hd.2⟩
theorem allL_mono {N M : Nat → Prop} (h : ∀ k, N k → M k) : ∀ {l : List D}, allL N l → allL M l
  | [], _ => trivial
  | d :: ds, hd => by simp only [allL] at *; exact ⟨D.all_mono h hd.1, allL_mono h hd.2⟩
end
mutual
theorem D.all_true : ∀ d : D, d.all (fun _ => True)
  | .v _ => trivial
  | .agg cs => by simp only [D.all]; exact allL_true cs
  | .tup cs => by simp only [D.all]; exact allL_true cs
  | .fn _ fs cs => by simp only [D.all]; exact ⟨allL_true fs, allL_true cs⟩
  | .ifc _ d => by simp only [D.all]; exact D.all_true d
  | .loc k _ => trivial
  | .rd cs _ => by simp only [D.all]; exact allL_true cs
  | .sl o es => by simp only [D.all]; exact ⟨by cases o <;> trivial, allL_true es⟩
theorem allL_true : ∀ l : List D, allL (fun _ => True) l
  | [] => trivial
  | d :: ds => by simp only [allL]; exact ⟨D.all_true d, allL_true ds⟩
end

/-- What was fixed stays as it was; the names of N keep their blocks. -/
structure Keep (N : Nat → Prop) (w : World) (η : Names) (X : Nat → Nat → Prop) (w' : World) (η' : Names) (X' : Nat → Nat → Prop) : Prop where
  size : w.heap.size ≤ w'.heap.size
  fix : ∀ b i, b < w.heap.size → X b i → X' b i ∧ w'.cell? ⟨b, i, none⟩ = w.cell? ⟨b, i, none⟩
  eta : ∀ k b, N k → η k = some b → η' k = some b
  shp : ∀ (b : Nat) (cur : Array Value) (e : TypeId), w.heap[b]? = some (.cells cur e (0, 0)) → ∃ cur' : Array Value, w'.heap[b]? = some (.cells cur' e (0, 0)) ∧ cur'.size = cur.size

section
variable {P : Program} {N : Nat → Prop} {w : World} {η : Names} {X : Nat → Nat → Prop} {w' : World} {η' : Names} {X' : Nat → Nat → Prop}
theorem OwnAt.keep (K : Keep N w η X w' η' X') {A : Option Addr} {n c : Nat} {o : Own} (ho : o.all N) (h : OwnAt P w η A n c o) : OwnAt P w' η' A n c o := by
  cases o with
  | no => trivial
  | full => exact h
  | row g =>
    rcases h with h | ⟨b, cur, e, h1, h2, h3, h4⟩
    · exact .inl ⟨K.eta _ _ ho h.1, h.2⟩
    · obtain ⟨cur', h6, h7⟩ := K.shp _ _ _ h3
      exact .inr ⟨b, cur', e, K.eta _ _ ho h1, h2, h6, by rw [h7, h4]⟩
theorem Keep.cell (K : Keep N w η X w' η' X') {b i : Nat} {x : Value} (hx : X b i) (h : w.cell? ⟨b, i, none⟩ = some x) : X' b i ∧ w'.cell? ⟨b, i, none⟩ = some x := by
  have := K.fix b i (World.block_lt_of_cell? w ⟨b, i, none⟩ h) hx
  exact ⟨this.1, this.2.trans h⟩
mutual
theorem Rep.keep (K : Keep N w η X w' η' X') : ∀ {d : D} {y : Value}, d.all N → Rep P w η X d y → Rep P w' η' X' d y
  | .v x, y, _, h => by simp only [Rep] at *; exact h
  | .agg cs, y, hd, h => by
    simp only [Rep, D.all] at *
    obtain ⟨vs, h1, h2, h3⟩ := h
    exact ⟨vs, h1, RepL.keep K hd h2, h3⟩
  | .tup cs, y, hd, h => by
    simp only [Rep, D.all] at *
    obtain ⟨vs, h1, h2⟩ := h
    exact ⟨vs, h1, RepL.keep K hd h2⟩
  | .fn f fs cs, y, hd, h => by
    simp only [Rep, D.all] at *
    obtain ⟨us, vs, h1, h2, h3⟩ := h
    exact ⟨us, vs, h1, RepL.keep K hd.1 h2, RepL.keep K hd.2 h3⟩
  | .ifc t d, y, hd, h => by
    simp only [Rep, D.all] at *
    obtain ⟨x, h1, h2⟩ := h
    exact ⟨x, h1, Rep.keep K hd h2⟩
  | .loc k off, y, hd, h => by
    simp only [Rep, D.all] at *
    obtain ⟨b, h1, h2⟩ := h
    exact ⟨b, K.eta _ _ hd h1, h2⟩
  | .rd cs off, y, hd, h => by
    simp only [Rep, D.all] at *
    obtain ⟨b, o, h1, h3⟩ := h
    exact ⟨b, o, h1, RepC.keep K hd h3⟩
  | .sl own es, y, hd, h => by
    simp only [Rep, D.all] at *
    obtain ⟨A, c, h1, h2, h3, h4, h5⟩ := h
    refine ⟨A, c, h1, h2, h3, h4.keep K hd.1, fun h0 => ?_⟩
    obtain ⟨b, o, z, e1, e3, e4⟩ := h5 h0
    exact ⟨b, o, z, e1, e3, RepE.keep K z hd.2 e4⟩
theorem RepL.keep (K : Keep N w η X w' η' X') : ∀ {l : List D} {vs : List Value}, allL N l → RepL P w η X l vs → RepL P w' η' X' l vs
  | [], vs, _, h => by simp only [RepL] at *; exact h
  | d :: ds, vs, hd, h => by
    simp only [RepL, allL] at *
    obtain ⟨x, xs, h1, h2, h3⟩ := h
    exact ⟨x, xs, h1, Rep.keep K hd.1 h2, RepL.keep K hd.2 h3⟩
theorem RepC.keep (K : Keep N w η X w' η' X') : ∀ {l : List D} {b o : Nat}, allL N l → RepC P w η X l b o → RepC P w' η' X' l b o
  | [], b, o, _, h => by simp only [RepC] at *
  | d :: ds, b, o, hd, h => by
    simp only [RepC, allL] at *
    obtain ⟨⟨h1, x, h2, h3, h4⟩, h5⟩ := h
    obtain ⟨k1, k2⟩ := K.cell h1 h2
    exact ⟨⟨k1, x, k2, h3, Rep.keep K hd.1 h4⟩, RepC.keep K hd.2 h5⟩
theorem RepE.keep (K : Keep N w η X w' η' X') (z : Nat) : ∀ {l : List D} {b o : Nat}, allL N l → RepE P w η X z l b o → RepE P w' η' X' z l b o
  | [], b, o, _, h => by simp only [RepE] at *
  | d :: ds, b, o, hd, h => by
    simp only [RepE, allL] at *
    obtain ⟨⟨h1, h2⟩, h5⟩ := h
    refine ⟨⟨RepA.keep K z hd.1 h1, fun hn => ?_⟩, RepE.keep K z hd.2 h5⟩
    obtain ⟨e1, e2, x, e3, e4, e5⟩ := h2 hn
    obtain ⟨k1, k2⟩ := K.cell e2 e3
    exact ⟨e1, k1, x, k2, e4, Rep.keep K hd.1 e5⟩
theorem RepA.keep (K : Keep N w η X w' η' X') (z : Nat) : ∀ {d : D} {b o : Nat}, d.all N → RepA P w η X z d b o → RepA P w' η' X' z d b o
  | .agg cs, b, o, hd, h => by
    simp only [RepA, D.all] at *
    exact ⟨h.1, RepC.keep K hd h.2⟩
  | .v _, _, _, _, _ => by simp only [RepA]
  | .tup _, _, _, _, _ => by simp only [RepA]
  | .fn _ _ _, _, _, _, _ => by simp only [RepA]
  | .ifc _ _, _, _, _, _ => by simp only [RepA]
  | .loc _ _, _, _, _, _ => by simp only [RepA]
  | .rd _ _, _, _, _, _ => by simp only [RepA]
  | .sl _ _, _, _, _, _ => by simp only [RepA]
end
theorem RepL.length : ∀ {l : List D} {vs : List Value}, RepL P w η X l vs → vs.length = l.length
  | [], vs, h => by simp only [RepL] at h; simp [h]
  | d :: ds, vs, h => by
    simp only [RepL] at h
    obtain ⟨x, xs, rfl, _, h3⟩ := h
    simp [RepL.length h3]
theorem RepL.get : ∀ {l : List D} {vs : List Value} (i : Nat) {d : D}, RepL P w η X l vs → l[i]? = some d → ∃ x, vs[i]? = some x ∧ Rep P w η X d x
  | [], vs, i, d, h, hi => by simp at hi
  | d :: ds, vs, i, d', h, hi => by
    simp only [RepL] at h
    obtain ⟨x, xs, rfl, h2, h3⟩ := h
    cases i with
    | zero => simp at hi; exact ⟨x, rfl, hi ▸ h2⟩
    | succ i => simpa using RepL.get i h3 (by simpa using hi)
theorem RepL.append : ∀ {l m : List D} {vs us : List Value}, RepL P w η X l vs → RepL P w η X m us → RepL P w η X (l ++ m) (vs ++ us)
  | [], m, vs, us, h, k => by simp only [RepL] at h; simpa [h] using k
  | d :: ds, m, vs, us, h, k => by
    simp only [RepL] at h
    obtain ⟨x, xs, rfl, h2, h3⟩ := h
    simp only [List.cons_append, RepL]
    exact ⟨x, xs ++ us, rfl, h2, RepL.append h3 k⟩
theorem RepL.drop : ∀ {l : List D} {vs : List Value} (i : Nat), RepL P w η X l vs → RepL P w η X (l.drop i) (vs.drop i)
  | [], vs, i, h => by simp only [RepL] at h; subst h; simp [RepL]
  | d :: ds, vs, 0, h => h
  | d :: ds, vs, i + 1, h => by
    simp only [RepL] at h
    obtain ⟨x, xs, rfl, h2, h3⟩ := h
    simpa using RepL.drop i h3
theorem RepL.take : ∀ {l : List D} {vs : List Value} (i : Nat), RepL P w η X l vs → RepL P w η X (l.take i) (vs.take i)
  | [], vs, i, h => by simp only [RepL] at h; subst h; simp [RepL]
  | d :: ds, vs, 0, h => by simp [RepL]
  | d :: ds, vs, i + 1, h => by
    simp only [RepL] at h
    obtain ⟨x, xs, rfl, h2, h3⟩ := h
    simp only [List.take_succ_cons, RepL]
    exact ⟨x, _, rfl, h2, RepL.take i h3⟩
theorem RepL.set : ∀ {l : List D} {vs : List Value} (i : Nat) {d : D} {x : Value}, RepL P w η X l vs → Rep P w η X d x → RepL P w η X (l.set i d) (vs.set i x)
  | [], vs, i, d, x, h, k => by simp only [RepL] at h; subst h; simp [RepL]
  | d :: ds, vs, 0, d', x, h, k => by
    simp only [RepL] at h
    obtain ⟨y, ys, rfl, h2, h3⟩ := h
    simp only [List.set_cons_zero, RepL]
    exact ⟨x, ys, rfl, k, h3⟩
  | d :: ds, vs, i + 1, d', x, h, k => by
    simp only [RepL] at h
    obtain ⟨y, ys, rfl, h2, h3⟩ := h
    simp only [List.set_cons_succ, RepL]
    exact ⟨y, _, rfl, h2, RepL.set i h3 k⟩
theorem RepC.range : ∀ {l : List D} {b o : Nat}, RepC P w η X l b o → ∃ vs, vs.length = l.length ∧ w.rangeAt b o vs ∧ RepL P w η X l vs ∧ ∀ x ∈ vs, x.oneCell' = true
  | [], b, o, _ => ⟨[], rfl, fun j v h => by simp at h, by simp [RepL], fun x h => by cases h⟩
  | d :: ds, b, o, h => by
    simp only [RepC] at h
    obtain ⟨⟨h1, x, h2, h3, h4⟩, h5⟩ := h
    obtain ⟨vs, k1, k2, k3, k4⟩ := RepC.range h5
    refine ⟨x :: vs, by simp [k1], fun j v hj => ?_, by simp only [RepL]; exact ⟨x, vs, rfl, h4, k3⟩, fun u hu => ?_⟩
    · cases j with
      | zero => simp at hj; rw [Nat.add_zero, h2, hj]
      | succ j => have := k2 j v (by simpa using hj); rwa [show o + 1 + j = o + (j + 1) by omega] at this
    · rcases List.mem_cons.1 hu with rfl | hu
      · exact h3
      · exact k4 u hu
theorem RepC.drop : ∀ {l : List D} {b o : Nat} (i : Nat), RepC P w η X l b o → RepC P w η X (l.drop i) b (o + i)
  | [], b, o, i, _ => by simp [RepC]
  | d :: ds, b, o, 0, h => h
  | d :: ds, b, o, i + 1, h => by
    simp only [RepC] at h
    have := RepC.drop i h.2
    rw [show o + 1 + i = o + (i + 1) by omega] at this
    simpa using this
theorem RepC.take : ∀ {l : List D} {b o : Nat} (i : Nat), RepC P w η X l b o → RepC P w η X (l.take i) b o
  | [], b, o, i, _ => by simp [RepC]
  | d :: ds, b, o, 0, h => by simp [RepC]
  | d :: ds, b, o, i + 1, h => by
    simp only [RepC] at h
    simp only [List.take_succ_cons, RepC]
    exact ⟨h.1, RepC.take i h.2⟩
theorem RepC.mk : ∀ {l : List D} {vs : List Value} {b o : Nat}, RepL P w η X l vs → w.rangeAt b o vs → (∀ j, j < vs.length → X b (o + j)) → (∀ x ∈ vs, x.oneCell' = true) → RepC P w η X l b o
  | [], vs, b, o, _, _, _, _ => by simp [RepC]
  | d :: ds, vs, b, o, h, hr, hx, h1 => by
    simp only [RepL] at h
    obtain ⟨x, xs, rfl, h2, h3⟩ := h
    simp only [RepC]
    refine ⟨⟨by simpa using hx 0 (by simp), x, by simpa using hr 0 x rfl, h1 x (by simp), h2⟩, RepC.mk h3 (fun j v hj => ?_) (fun j hj => ?_) (fun y hy => h1 y (by simp [hy]))⟩
    · have := hr (j + 1) v (by simpa using hj); rwa [show o + 1 + j = o + (j + 1) by omega]
    · have := hx (j + 1) (by simp; omega); rwa [show o + 1 + j = o + (j + 1) by omega]
/-- One element's cells. -/
def RepEl (P : Program) (w : World) (η : Names) (X : Nat → Nat → Prop) (z : Nat) (d : D) (b o : Nat) : Prop := RepA P w η X z d b o ∧ (d.isAgg = false → z = 1 ∧ X b o ∧ ∃ x, w.cell? ⟨b, o, none⟩ = some x ∧ x.oneCell' = true ∧ Rep P w η X d x)
theorem RepEl.cells {z : Nat} {d : D} {b o : Nat} (h : RepEl P w η X z d b o) : d.width = z ∧ RepC P w η X d.cells b o := by
  obtain ⟨h1, h2⟩ := h
  cases hd : d.isAgg with
  | true =>
    cases d <;> simp [D.isAgg] at hd
    simp only [RepA] at h1
    exact ⟨h1.1, h1.2⟩
  | false =>
    obtain ⟨e1, e2, x, e3, e4, e5⟩ := h2 hd
    have hc : d.cells = [d] := by cases d <;> simp [D.isAgg] at hd <;> rfl
    refine ⟨by rw [D.width, hc, e1]; rfl, ?_⟩
    rw [hc]
    simp only [RepC]
    exact ⟨⟨e2, x, e3, e4, e5⟩, trivial⟩
theorem RepEl.mk {d : D} {b o : Nat} (h : RepC P w η X d.cells b o) : RepEl P w η X d.width d b o := by
  cases hd : d.isAgg with
  | true =>
    cases d <;> simp [D.isAgg] at hd
    exact ⟨by simp only [RepA]; exact ⟨rfl, h⟩, fun h' => by simp [D.isAgg] at h'⟩
  | false =>
    have hc : d.cells = [d] := by cases d <;> simp [D.isAgg] at hd <;> rfl
    have hw : d.width = 1 := by rw [D.width, hc]; rfl
    rw [hc] at h
    simp only [RepC] at h
    exact ⟨by cases d <;> simp [D.isAgg] at hd <;> simp only [RepA], fun _ => ⟨hw, h.1.1, h.1.2⟩⟩
theorem RepE.cons {z : Nat} {d : D} {l : List D} {b o : Nat} : RepE P w η X z (d :: l) b o ↔ RepEl P w η X z d b o ∧ RepE P w η X z l b (o + z) := by simp only [RepE, RepEl]
theorem RepE.get {z : Nat} : ∀ {l : List D} {b o : Nat} (i : Nat) {d : D}, RepE P w η X z l b o → l[i]? = some d → RepEl P w η X z d b (o + i * z)
  | [], b, o, i, d, h, hi => by simp at hi
  | d :: ds, b, o, 0, d', h, hi => by simp at hi; subst hi; simpa using (RepE.cons.1 h).1
  | d :: ds, b, o, i + 1, d', h, hi => by
    have := RepE.get i (RepE.cons.1 h).2 (by simpa using hi)
    rwa [show o + z + i * z = o + (i + 1) * z by rw [Nat.add_mul]; omega] at this
theorem RepE.mk {z : Nat} : ∀ {l : List D} {b o : Nat}, (∀ i d, l[i]? = some d → RepEl P w η X z d b (o + i * z)) → RepE P w η X z l b o
  | [], b, o, h => by simp [RepE]
  | d :: ds, b, o, h => RepE.cons.2 ⟨by simpa using h 0 d rfl, RepE.mk fun i d' hi => by
      have := h (i + 1) d' (by simpa using hi)
      rwa [show o + z + i * z = o + (i + 1) * z by rw [Nat.add_mul]; omega]⟩
end

mutual
/-- A tree that stands for a value bears known names alone. -/
theorem Rep.names {P : Program} {w : World} {η : Names} {X : Nat → Nat → Prop} : ∀ {d : D} {y : Value}, Rep P w η X d y → d.all (fun k => (η k).isSome = true)
  | .v x, y, _ => trivial
  | .agg cs, y, h => by
    simp only [Rep] at h
    obtain ⟨vs, h1, h2, h3⟩ := h
    simp only [D.all]
    exact RepL.names h2
  | .tup cs, y, h => by
    simp only [Rep] at h
    obtain ⟨vs, h1, h2⟩ := h
    simp only [D.all]
    exact RepL.names h2
  | .fn f fs cs, y, h => by
    simp only [Rep] at h
    obtain ⟨us, vs, h1, h2, h3⟩ := h
    simp only [D.all]
    exact ⟨RepL.names h2, RepL.names h3⟩
  | .ifc t d, y, h => by
    simp only [Rep] at h
    obtain ⟨x, h1, h2⟩ := h
    simp only [D.all]
    exact Rep.names h2
  | .loc k off, y, h => by
    simp only [Rep] at h
    obtain ⟨b, h1, h2⟩ := h
    simp only [D.all, h1, Option.isSome_some]
  | .rd cs off, y, h => by
    simp only [Rep] at h
    obtain ⟨b, o, h1, h3⟩ := h
    simp only [D.all]
    exact RepC.names h3
  | .sl own es, y, h => by
    simp only [Rep] at h
    obtain ⟨A, c, h1, h2, h3, h4, h5⟩ := h
    simp only [D.all]
    refine ⟨?_, ?_⟩
    · cases own with
      | no => trivial
      | full => trivial
      | row g =>
        simp only [Own.all]
        rcases h4 with ⟨h4, _⟩ | ⟨b, cur, e, h4, _⟩ <;> rw [h4] <;> rfl
    · rcases Nat.eq_zero_or_pos es.length with h0 | h0
      · have := List.eq_nil_of_length_eq_zero h0
        subst this
        simp only [allL]
      · obtain ⟨b, o, z, e1, e3, e4⟩ := h5 h0
        exact RepE.names e4
theorem RepL.names {P : Program} {w : World} {η : Names} {X : Nat → Nat → Prop} : ∀ {l : List D} {vs : List Value}, RepL P w η X l vs → allL (fun k => (η k).isSome = true) l
  | [], vs, _ => trivial
  | d :: ds, vs, h => by
    simp only [RepL] at h
    obtain ⟨x, xs, h1, h2, h3⟩ := h
    simp only [allL]
    exact ⟨Rep.names h2, RepL.names h3⟩
theorem RepC.names {P : Program} {w : World} {η : Names} {X : Nat → Nat → Prop} : ∀ {l : List D} {b o : Nat}, RepC P w η X l b o → allL (fun k => (η k).isSome = true) l
  | [], _, _, _ => trivial
  | d :: ds, b, o, h => by
    simp only [RepC] at h
    obtain ⟨⟨h1, x, h2, h3, h4⟩, h5⟩ := h
    simp only [allL]
    exact ⟨Rep.names h4, RepC.names h5⟩
theorem RepE.names {P : Program} {w : World} {η : Names} {X : Nat → Nat → Prop} {z : Nat} : ∀ {l : List D} {b o : Nat}, RepE P w η X z l b o → allL (fun k => (η k).isSome = true) l
  | [], _, _, _ => trivial
  | d :: ds, b, o, h => by
    simp only [RepE] at h
    obtain ⟨⟨h1, h2⟩, h5⟩ := h
    simp only [allL]
    refine ⟨?_, RepE.names h5⟩
    cases hd : d.isAgg with
    | true => exact RepA.names hd h1
    | false =>
      obtain ⟨e1, e2, x, e3, e4, e5⟩ := h2 hd
      exact Rep.names e5
theorem RepA.names {P : Program} {w : World} {η : Names} {X : Nat → Nat → Prop} {z : Nat} : ∀ {d : D} {b o : Nat}, d.isAgg = true → RepA P w η X z d b o → d.all (fun k => (η k).isSome = true)
  | .agg cs, b, o, _, h => by
    simp only [RepA] at h
    simp only [D.all]
    exact RepC.names h.2
  | .v _, _, _, h, _ => by cases h
  | .tup _, _, _, h, _ => by cases h
  | .fn _ _ _, _, _, h, _ => by cases h
  | .ifc _ _, _, _, h, _ => by cases h
  | .loc _ _, _, _, h, _ => by cases h
  | .rd _ _, _, _, h, _ => by cases h
  | .sl _ _, _, _, h, _ => by cases h
end

/-- The memory behind a state: S's names have blocks of their own, from 'base' on. -/
structure Mem (P : Program) (base : Nat) (S : St) (η : Names) (w : World) : Prop where
  base_ : base ≤ w.heap.size
  dead : ∀ k, S.next ≤ k → η k = none
  fresh : ∀ k, S.next ≤ k → S.ob k = none
  live : ∀ k t cs, S.ob k = some (.box t cs) → ∃ b, η k = some (some b)
  inj : ∀ k k' b, η k = some (some b) → η k' = some (some b) → (S.ob k).isSome = true → (S.ob k').isSome = true → k = k'
  in_ : ∀ k b, η k = some (some b) → base ≤ b ∧ b < w.heap.size
  box : ∀ k t cs b, S.ob k = some (.box t cs) → η k = some (some b) → ∃ vs : List Value, w.heap[b]? = some (.cells vs.toArray t (0, 0)) ∧ RepL P w η (Fix P S η) cs vs ∧ ∀ x ∈ vs, x.oneCell' = true
  row : ∀ k e n b, S.ob k = some (.row e n) → η k = some (some b) → ∃ cur : Array Value, w.heap[b]? = some (.cells cur e (0, 0)) ∧ n * szOf P e ≤ cur.size
end Go.Proofs.Ytpnjkebjdclkfaa
