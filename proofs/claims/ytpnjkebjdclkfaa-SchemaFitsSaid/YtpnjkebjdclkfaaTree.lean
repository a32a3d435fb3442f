/- Trees that lie in memory: schemas, values, paths. Conditions: none. -/
import Derived.Test.YtpnjkebjdclkfaaMem
import Derived.WalkLawsBesides
import Derived.Lib.Strings
import Derived.Deep.MidRow
import Derived.Laws.NewBlocks
namespace Go.Proofs.Ytpnjkebjdclkfaa
open Go.RowKit

/-- What fits an int. -/
def I64 (n : Int) : Prop := (Lit.int .i64 n).wf = true
def U64 (n : Int) : Prop := (Lit.int .u64 n).wf = true
/-- A string, by its bytes. -/
abbrev Str := List UInt8
def strB (l : Str) : ByteArray := ⟨l.toArray⟩
@[simp, go_sem] theorem strB_toList (l : Str) : (strB l).toList = l := by
  rw [Go.Lib.toList_data]; simp [strB]
@[simp, go_sem] theorem strB_size (l : Str) : (strB l).size = l.length := by simp [strB, ByteArray.size]
@[simp, go_sem] theorem strB_get (l : Str) (i : Nat) (h : i < (strB l).size) : (strB l)[i]'h = l[i]'(by simpa using h) := by simp only [strB]; rfl
theorem strB_inj {a b : Str} (h : strB a = strB b) : a = b := by rw [← strB_toList a, h, strB_toList]
theorem strB_of (s : ByteArray) : strB s.data.toList = s := by simp [strB]
abbrev sv (s : Str) : Value := .string (strB s)
abbrev uv (n : Nat) : Value := .int .u64 (n : Int)

/-- The slice value '.slice A n _' reads as the cells xs; it lies in blocks of F. -/
def RF (w : World) (F : Nat → Prop) (size : Nat) (A : Option Addr) (n : Nat) (xs : List Value) : Prop :=
  xs.length = n * size ∧ (0 < n → ∃ b o, A = some ⟨b, o, none⟩ ∧ F b ∧ ∀ j u, xs[j]? = some u → w.cell? ⟨b, o + j, none⟩ = some u)
section
variable {w w' : World} {F G : Nat → Prop} {size n : Nat} {A : Option Addr} {xs : List Value}
theorem RF.keep (h : RF w F size A n xs) (hk : ∀ q : Addr, F q.block → w'.cell? q = w.cell? q) : RF w' F size A n xs :=
  ⟨h.1, fun hn => by
    obtain ⟨b, o, e, hb, hc⟩ := h.2 hn
    exact ⟨b, o, e, hb, fun j u hu => (hk _ hb).trans (hc j u hu)⟩⟩
theorem RF.mono (h : RF w F size A n xs) (hg : ∀ k, F k → G k) : RF w G size A n xs :=
  ⟨h.1, fun hn => by
    obtain ⟨b, o, e, hb, hc⟩ := h.2 hn
    exact ⟨b, o, e, hg _ hb, hc⟩⟩
theorem RF.reads {B : Nat} (h : RF w F size A n xs) (hg : ∀ k, F k → k < B) : Reads w B size A n xs :=
  ⟨h.1, fun hn => by
    obtain ⟨b, o, e, hb, hc⟩ := h.2 hn
    exact ⟨b, o, e, hg _ hb, hc⟩⟩
theorem RF.of_reads {B : Nat} (h : Reads w B size A n xs) : RF w (· < B) size A n xs := h
theorem RF.nil : RF w F size A 0 [] := ⟨by simp, fun h => absurd h (by omega)⟩
theorem RF.at_ {α : Type} {f : α → Value} {l : List α} {k : Nat} (h : RF w F 1 A n (l.map f)) (hk : k < l.length) : ∃ b o, A = some ⟨b, o, none⟩ ∧ F b ∧ w.cell? ⟨b, o + k, none⟩ = some (f l[k]) := by
  have hn : l.length = n := by have := h.1; simpa using this
  obtain ⟨b, o, e, hb, hc⟩ := h.2 (by omega)
  exact ⟨b, o, e, hb, hc k _ (by simp [hk])⟩
end

theorem setCells_alloc (W : World) (t : TypeId) : ∀ (vs : List Value) (o : Nat) (Z : List Value), o + vs.length ≤ Z.length →
    (W.alloc (.cells Z.toArray t)).setCells W.heap.size o vs = W.alloc (.cells (Z.take o ++ vs ++ Z.drop (o + vs.length)).toArray t) := by
  intro vs
  induction vs with
  | nil => intro o Z h; simp [World.setCells]
  | cons v vs ih =>
    intro o Z h
    simp only [List.length_cons] at h
    have e0 : (W.alloc (.cells Z.toArray t)).setCell ⟨W.heap.size, o, none⟩ v = W.alloc (.cells (Z.set o v).toArray t) := by
      rw [World.setCell_alloc_at _ _ _ _ _ rfl]
      simp
    have h2 := ih (o + 1) (Z.set o v) (by simp; omega)
    have e : (Z.set o v).take (o + 1) ++ vs ++ (Z.set o v).drop (o + 1 + vs.length) = Z.take o ++ v :: vs ++ Z.drop (o + (vs.length + 1)) := by
      rw [List.drop_set_of_lt (by omega), List.take_succ_eq_append_getElem (by simp; omega), List.take_set_of_le (Nat.le_refl _)]
      simp [Nat.add_assoc, Nat.add_comm 1]
    rw [e] at h2
    show ((W.alloc (.cells Z.toArray t)).setCell ⟨W.heap.size, o, none⟩ v).setCells W.heap.size (o + 1) vs = _
    rw [e0, h2, List.length_cons]
/-- What is laid into a variable of its own that was just made. -/
theorem run_store_new {P : Program} (W : World) (t : TypeId) (Z C : List Value) (hz : Z.length = C.length) (h1 : ∀ v ∈ C, v.oneCell' = true) :
    (storeCells ⟨W.heap.size, 0, none⟩ C).run P (W.alloc (.cells Z.toArray t)) = .ok () (W.alloc (.cells C.toArray t)) := by
  have hb := Blk.new W t Z.toArray
  have := run_storeCells_cells (P := P) W.heap.size 0 C 0 (W.alloc (.cells Z.toArray t)) (fun j hj => by
    have hj' : 0 + 0 + j < Z.length := by omega
    rw [hb.cell (0 + 0 + j)]
    simp; omega) (fun j hj => by have := hb.frozen (0 + j); exact this) h1
  rw [setCells_alloc W t C 0 Z (by omega)] at this
  simp only [Nat.zero_add, List.take_zero, List.nil_append, ← hz, List.drop_length, List.append_nil] at this
  exact this

theorem Blk.new2 (w : World) (o : Obj) (t : TypeId) (cs : Array Value) : Blk ((w.alloc o).alloc (.cells cs t)) (w.heap.size + 1) t cs := by simpa using Blk.new (w.alloc o) t cs
/-- Are two the same? -/
noncomputable def eqB {α : Type} (a b : α) : Bool := @decide (a = b) (Classical.propDecidable _)
theorem eqB_true {α : Type} {a b : α} (h : a = b) : eqB a b = true := by unfold eqB; exact @decide_eq_true _ (Classical.propDecidable _) h
theorem eqB_false {α : Type} {a b : α} (h : a ≠ b) : eqB a b = false := by unfold eqB; exact @decide_eq_false _ (Classical.propDecidable _) h
theorem eqB_iff {α : Type} {a b : α} : eqB a b = true ↔ a = b := by unfold eqB; exact @decide_eq_true_iff _ (Classical.propDecidable _)

/-! ### Schemas -/
inductive DSch where
  | mk (kind : Int) (words : List Str) (parts : List DSch)
namespace DSch
def kind : DSch → Int
  | mk k _ _ => k
def words : DSch → List Str
  | mk _ ws _ => ws
def parts : DSch → List DSch
  | mk _ _ ps => ps
mutual
def depth : DSch → Nat
  | mk _ _ ps => depths ps + 1
def depths : List DSch → Nat
  | [] => 0
  | p :: ps => max p.depth (depths ps)
end
mutual
/-- How many schemas and words there are. -/
def weight : DSch → Nat
  | mk _ ws ps => 1 + ws.length + weights ps
def weights : List DSch → Nat
  | [] => 0
  | p :: ps => p.weight + weights ps
end
theorem weight_eq (s : DSch) : s.weight = 1 + s.words.length + weights s.parts := by obtain ⟨k, ws, ps⟩ := s; simp only [weight, words, parts]
theorem depth_eq (s : DSch) : s.depth = depths s.parts + 1 := by obtain ⟨k, ws, ps⟩ := s; simp only [depth, parts]
theorem depths_take (l : List DSch) (k : Nat) (h : k < l.length) : depths (l.take (k + 1)) = max (depths (l.take k)) (l[k]).depth := by
  have app : ∀ (a : List DSch) (p : DSch), depths (a ++ [p]) = max (depths a) p.depth := by
    intro a p
    induction a with
    | nil => simp [depths]
    | cons x a ih => simp only [List.cons_append, depths, ih]; omega
  rw [List.take_succ_eq_append_getElem h, app]
theorem depths_le (l : List DSch) (k : Nat) : depths (l.take k) ≤ depths l := by
  induction l generalizing k with
  | nil => simp [depths]
  | cons x l ih =>
    cases k with
    | zero => simp [depths]
    | succ k => have := ih k; simp only [List.take_succ_cons, depths]; omega
theorem depth_part {s p : DSch} (h : p ∈ s.parts) : p.depth < s.depth := by
  obtain ⟨k, ws, ps⟩ := s
  have key : ∀ (l : List DSch), p ∈ l → p.depth ≤ depths l := by
    intro l
    induction l with
    | nil => intro h; cases h
    | cons x l ih =>
      intro h
      simp only [depths]
      rcases List.mem_cons.1 h with rfl | h
      · exact Nat.le_max_left _ _
      · exact Nat.le_trans (ih h) (Nat.le_max_right _ _)
  have := key ps h
  simp only [depth]
  omega
theorem weight_part {s p : DSch} (h : p ∈ s.parts) : p.weight < s.weight := by
  obtain ⟨k, ws, ps⟩ := s
  have key : ∀ (l : List DSch), p ∈ l → p.weight ≤ weights l := by
    intro l
    induction l with
    | nil => intro h; cases h
    | cons x l ih =>
      intro h
      simp only [weights]
      rcases List.mem_cons.1 h with rfl | h
      · omega
      · have := ih h; omega
  have := key ps h
  simp only [weight]
  omega
theorem depth_pos (s : DSch) : 0 < s.depth := by obtain ⟨k, ws, ps⟩ := s; simp [depth]
theorem depth_weight (k : Nat) : ∀ s : DSch, s.depth ≤ k → s.depth ≤ s.weight := by
  induction k with
  | zero => intro s h; have := s.depth_pos; omega
  | succ k ih =>
    intro s h
    obtain ⟨kd, ws, ps⟩ := s
    simp only [depth, weight] at h ⊢
    have key : ∀ (l : List DSch), depths l ≤ k → depths l ≤ weights l := by
      intro l
      induction l with
      | nil => intro _; exact Nat.le_refl _
      | cons x l ih2 =>
        intro hl
        simp only [depths, weights] at hl ⊢
        have h1 := ih x (by omega)
        have h2 := ih2 (by omega)
        omega
    have := key ps (by omega)
    omega
theorem parts_weight (s : DSch) : s.parts.length ≤ s.weight := by
  obtain ⟨k, ws, ps⟩ := s
  have key : ∀ (l : List DSch), l.length ≤ weights l := by
    intro l
    induction l with
    | nil => simp
    | cons x l ih =>
      have : 0 < x.weight := by obtain ⟨a, b, c⟩ := x; simp only [weight]; omega
      simp only [List.length_cons, weights]
      omega
  have := key ps
  simp only [parts, weight]
  omega
theorem words_weight (s : DSch) : s.words.length ≤ s.weight := by obtain ⟨k, ws, ps⟩ := s; simp only [words, weight]; omega
end DSch

/-- A schema's cells read as one; its memory lies in blocks of F. -/
inductive IsSch (w : World) (F : Nat → Prop) : DSch → List Value → Prop where
  | mk {kind : Int} {words : List Str} {parts : List DSch} {Aw Ap : Option Addr} {cw cp b o : Nat} {C : Nat → List Value} (hk : I64 kind)
    (hw : RF w F 1 Aw words.length (words.map sv)) (hs : ∀ s ∈ words, s.length ≤ maxLen) (hcw : words.length ≤ cw) (hmw : words.length ≤ 140737488351232)
    (hA : 0 < parts.length → Ap = some ⟨b, o, none⟩ ∧ F b) (hC : ∀ (i : Nat) (p : DSch), parts[i]? = some p → (C i).length = 3 ∧ w.rangeAt b (o + i * 3) (C i)) (hP : ∀ (i : Nat) (p : DSch), parts[i]? = some p → IsSch w F p (C i))
    (hcp : parts.length ≤ cp) (hmp : parts.length ≤ 140737488351232) : IsSch w F (.mk kind words parts) [.int .i64 kind, .slice Aw words.length cw, .slice Ap parts.length cp]

theorem IsSch.keep {w w' : World} {F : Nat → Prop} {s : DSch} {cs : List Value} (h : IsSch w F s cs) (hk : ∀ q : Addr, F q.block → w'.cell? q = w.cell? q) : IsSch w' F s cs := by
  induction h with
  | mk h1 h2 h3 h4 h5 hA hC _ h6 h7 ih =>
    refine .mk h1 (h2.keep hk) h3 h4 h5 hA (fun i p hp => ⟨(hC i p hp).1, fun j v hv => ?_⟩) ih h6 h7
    have hF := (hA (by have := (List.getElem?_eq_some_iff.1 hp).1; omega)).2
    exact (hk _ hF).trans ((hC i p hp).2 j v hv)
theorem IsSch.mono {w : World} {F G : Nat → Prop} {s : DSch} {cs : List Value} (h : IsSch w F s cs) (hg : ∀ k, F k → G k) : IsSch w G s cs := by
  induction h with
  | mk h1 h2 h3 h4 h5 hA hC _ h6 h7 ih => exact .mk h1 (h2.mono hg) h3 h4 h5 (fun h => ⟨(hA h).1, hg _ (hA h).2⟩) hC ih h6 h7
theorem IsSch.bel {w w' : World} {B : Nat} {s : DSch} {cs : List Value} (h : IsSch w (· < B) s cs) (hb : Below B w w') : IsSch w' (· < B) s cs := h.keep fun _ hq => hb.cell hq
theorem IsSch.more {w w' : World} {s : DSch} {cs : List Value} (h : IsSch w (· < w.heap.size) s cs) (hb : Below w.heap.size w w') : IsSch w' (· < w'.heap.size) s cs := (h.bel hb).mono fun _ hk => Nat.lt_of_lt_of_le hk hb.size
theorem IsSch.length {w : World} {F : Nat → Prop} {s : DSch} {cs : List Value} (h : IsSch w F s cs) : cs.length = 3 := by cases h; rfl
theorem IsSch.one {w : World} {F : Nat → Prop} {s : DSch} {cs : List Value} (h : IsSch w F s cs) : ∀ v ∈ cs, v.oneCell' = true := by cases h; simp [Value.oneCell']

theorem IsSch.kind_ {w : World} {F : Nat → Prop} {s : DSch} {cs : List Value} (h : IsSch w F s cs) : cs[0]? = some (.int .i64 s.kind) ∧ I64 s.kind := by
  cases h with
  | mk h1 h2 h3 h4 h5 hA hC hP h6 h7 => exact ⟨rfl, h1⟩
theorem IsSch.words_ {w : World} {F : Nat → Prop} {s : DSch} {cs : List Value} (h : IsSch w F s cs) : ∃ A c, cs[1]? = some (.slice A s.words.length c) ∧ RF w F 1 A s.words.length (s.words.map sv) ∧ (∀ x ∈ s.words, x.length ≤ maxLen) ∧ s.words.length ≤ c ∧ s.words.length ≤ 140737488351232 := by
  cases h with
  | mk h1 h2 h3 h4 h5 hA hC hP h6 h7 => exact ⟨_, _, rfl, h2, h3, h4, h5⟩
theorem IsSch.parts_ {w : World} {F : Nat → Prop} {s : DSch} {cs : List Value} (h : IsSch w F s cs) : ∃ A c, cs[2]? = some (.slice A s.parts.length c) ∧ s.parts.length ≤ c ∧ s.parts.length ≤ 140737488351232 ∧
    (0 < s.parts.length → ∃ b o, A = some ⟨b, o, none⟩ ∧ F b ∧ ∀ (i : Nat) (p : DSch), s.parts[i]? = some p → ∃ C : List Value, C.length = 3 ∧ w.rangeAt b (o + i * 3) C ∧ IsSch w F p C) := by
  cases h with
  | mk h1 h2 h3 h4 h5 hA hC hP h6 h7 => exact ⟨_, _, rfl, h6, h7, fun h0 => ⟨_, _, (hA h0).1, (hA h0).2, fun i p hp => ⟨_, (hC i p hp).1, (hC i p hp).2, hP i p hp⟩⟩⟩

theorem IsSch.partsF {w : World} {F : Nat → Prop} {s : DSch} {cs : List Value} (h : IsSch w F s cs) : ∃ A c, ∃ C : Nat → List Value, cs[2]? = some (.slice A s.parts.length c) ∧ s.parts.length ≤ c ∧ s.parts.length ≤ 140737488351232 ∧ (∀ (i : Nat) (p : DSch), s.parts[i]? = some p → IsSch w F p (C i)) ∧
    (0 < s.parts.length → ∃ b o, A = some ⟨b, o, none⟩ ∧ F b ∧ ∀ i, i < s.parts.length → (C i).length = 3 ∧ w.rangeAt b (o + i * 3) (C i)) := by
  cases h with
  | mk h1 h2 h3 h4 h5 hA hC hP h6 h7 => exact ⟨_, _, _, rfl, h6, h7, hP, fun h0 => ⟨_, _, (hA h0).1, (hA h0).2, fun i hi => hC i _ (List.getElem?_eq_getElem hi)⟩⟩
theorem DSch.ext_iff' (a b : DSch) : a = b ↔ a.kind = b.kind ∧ a.words = b.words ∧ a.parts = b.parts := by
  obtain ⟨k, ws, ps⟩ := a
  obtain ⟨k', ws', ps'⟩ := b
  simp [DSch.kind, DSch.words, DSch.parts]
theorem eqB_list {α : Type} (d : α) (a b : List α) : (decide (a.length = b.length) && (List.range a.length).all fun i => eqB (a.getD i d) (b.getD i d)) = eqB a b := by
  by_cases h : a = b
  · subst h
    rw [eqB_true rfl, decide_eq_true rfl, Bool.true_and]
    exact List.all_eq_true.2 fun i _ => eqB_true rfl
  · rw [eqB_false h, Bool.and_eq_false_iff]
    by_cases hl : a.length = b.length
    · right
      rw [List.all_eq_false]
      apply Classical.byContradiction
      intro hno
      refine h (List.ext_getElem hl fun i h1 h2 => ?_)
      apply Classical.byContradiction
      intro hne
      refine hno ⟨i, List.mem_range.2 h1, ?_⟩
      have e1 : a.getD i d = a[i] := by simp [List.getD, h1]
      have e2 : b.getD i d = b[i] := by simp [List.getD, h2]
      rw [e1, e2, eqB_false hne]
      simp
    · exact .inl (decide_eq_false hl)

/-! ### Values -/
inductive DVal where
  | mk (kind n : Int) (s : Str) (names : List Str) (ids : List Nat) (parts : List DVal)
namespace DVal
def kind : DVal → Int
  | mk k _ _ _ _ _ => k
def n : DVal → Int
  | mk _ n _ _ _ _ => n
def s : DVal → Str
  | mk _ _ s _ _ _ => s
def names : DVal → List Str
  | mk _ _ _ l _ _ => l
def ids : DVal → List Nat
  | mk _ _ _ _ l _ => l
def parts : DVal → List DVal
  | mk _ _ _ _ _ ps => ps
mutual
def depth : DVal → Nat
  | mk _ _ _ _ _ ps => depths ps + 1
def depths : List DVal → Nat
  | [] => 0
  | p :: ps => max p.depth (depths ps)
end
mutual
/-- How many values, names and numbers there are. -/
def weight : DVal → Nat
  | mk _ _ _ l m ps => 1 + l.length + m.length + weights ps
def weights : List DVal → Nat
  | [] => 0
  | p :: ps => p.weight + weights ps
end
mutual
def size : DVal → Nat
  | mk _ _ _ _ _ ps => 1 + sizes ps
def sizes : List DVal → Nat
  | [] => 0
  | p :: ps => p.size + sizes ps
end
theorem weight_eq (v : DVal) : v.weight = 1 + v.names.length + v.ids.length + weights v.parts := by obtain ⟨_, _, _, _, _, _⟩ := v; simp only [weight, names, ids, parts]
theorem depth_eq (v : DVal) : v.depth = depths v.parts + 1 := by obtain ⟨_, _, _, _, _, _⟩ := v; simp only [depth, parts]
theorem size_eq (v : DVal) : v.size = 1 + sizes v.parts := by obtain ⟨_, _, _, _, _, _⟩ := v; simp only [size, parts]
theorem depths_take (l : List DVal) (k : Nat) (h : k < l.length) : depths (l.take (k + 1)) = max (depths (l.take k)) (l[k]).depth := by
  have app : ∀ (a : List DVal) (p : DVal), depths (a ++ [p]) = max (depths a) p.depth := by
    intro a p
    induction a with
    | nil => simp [depths]
    | cons x a ih => simp only [List.cons_append, depths, ih]; omega
  rw [List.take_succ_eq_append_getElem h, app]
theorem depths_le (l : List DVal) (k : Nat) : depths (l.take k) ≤ depths l := by
  induction l generalizing k with
  | nil => simp [depths]
  | cons x l ih =>
    cases k with
    | zero => simp [depths]
    | succ k => have := ih k; simp only [List.take_succ_cons, depths]; omega
theorem depth_part {v p : DVal} (h : p ∈ v.parts) : p.depth < v.depth := by
  obtain ⟨_, _, _, _, _, ps⟩ := v
  have key : ∀ (l : List DVal), p ∈ l → p.depth ≤ depths l := by
    intro l
    induction l with
    | nil => intro h; cases h
    | cons x l ih =>
      intro h
      simp only [depths]
      rcases List.mem_cons.1 h with rfl | h
      · exact Nat.le_max_left _ _
      · exact Nat.le_trans (ih h) (Nat.le_max_right _ _)
  have := key ps h
  simp only [depth]
  omega
theorem weight_part {v p : DVal} (h : p ∈ v.parts) : p.weight < v.weight := by
  obtain ⟨_, _, _, _, _, ps⟩ := v
  have key : ∀ (l : List DVal), p ∈ l → p.weight ≤ weights l := by
    intro l
    induction l with
    | nil => intro h; cases h
    | cons x l ih =>
      intro h
      simp only [weights]
      rcases List.mem_cons.1 h with rfl | h
      · omega
      · have := ih h; omega
  have := key ps h
  simp only [weight]
  omega
theorem depth_pos (v : DVal) : 0 < v.depth := by obtain ⟨_, _, _, _, _, ps⟩ := v; simp [depth]
theorem depth_weight (k : Nat) : ∀ v : DVal, v.depth ≤ k → v.depth ≤ v.weight := by
  induction k with
  | zero => intro v h; have := v.depth_pos; omega
  | succ k ih =>
    intro v h
    obtain ⟨_, _, _, _, _, ps⟩ := v
    simp only [depth, weight] at h ⊢
    have key : ∀ (l : List DVal), depths l ≤ k → depths l ≤ weights l := by
      intro l
      induction l with
      | nil => intro _; exact Nat.le_refl _
      | cons x l ih2 =>
        intro hl
        simp only [depths, weights] at hl ⊢
        have h1 := ih x (by omega)
        have h2 := ih2 (by omega)
        omega
    have := key ps (by omega)
    omega
theorem parts_weight (v : DVal) : v.parts.length ≤ v.weight := by
  obtain ⟨_, _, _, _, _, ps⟩ := v
  have key : ∀ (l : List DVal), l.length ≤ weights l := by
    intro l
    induction l with
    | nil => simp
    | cons x l ih =>
      have : 0 < x.weight := by obtain ⟨a, b, c, d, e, f⟩ := x; simp only [weight]; omega
      simp only [List.length_cons, weights]
      omega
  have := key ps
  simp only [parts, weight]
  omega
theorem names_weight (v : DVal) : v.names.length ≤ v.weight := by obtain ⟨_, _, _, _, _, _⟩ := v; simp only [names, weight]; omega
theorem ids_weight (v : DVal) : v.ids.length ≤ v.weight := by obtain ⟨_, _, _, _, _, _⟩ := v; simp only [ids, weight]; omega
end DVal

/-- A value's cells read as one; its memory lies in blocks of F. -/
inductive IsVal (w : World) (F : Nat → Prop) : DVal → List Value → Prop where
  | mk {kind n : Int} {s : Str} {names : List Str} {ids : List Nat} {parts : List DVal} {An Ai Ap : Option Addr} {cn ci cp b o : Nat} {C : Nat → List Value} (hk : I64 kind) (hn : I64 n) (hs : s.length ≤ maxLen)
    (hnm : RF w F 1 An names.length (names.map sv)) (hns : ∀ s ∈ names, s.length ≤ maxLen) (hcn : names.length ≤ cn) (hmn : names.length ≤ 140737488351232)
    (hid : RF w F 1 Ai ids.length (ids.map uv)) (hiu : ∀ i ∈ ids, U64 (i : Int)) (hci : ids.length ≤ ci) (hmi : ids.length ≤ 140737488351232)
    (hA : 0 < parts.length → Ap = some ⟨b, o, none⟩ ∧ F b) (hC : ∀ (i : Nat) (p : DVal), parts[i]? = some p → (C i).length = 6 ∧ w.rangeAt b (o + i * 6) (C i)) (hP : ∀ (i : Nat) (p : DVal), parts[i]? = some p → IsVal w F p (C i))
    (hcp : parts.length ≤ cp) (hmp : parts.length ≤ 140737488351232) : IsVal w F (.mk kind n s names ids parts) [.int .i64 kind, .int .i64 n, sv s, .slice An names.length cn, .slice Ai ids.length ci, .slice Ap parts.length cp]

theorem IsVal.keep {w w' : World} {F : Nat → Prop} {v : DVal} {cs : List Value} (h : IsVal w F v cs) (hk : ∀ q : Addr, F q.block → w'.cell? q = w.cell? q) : IsVal w' F v cs := by
  induction h with
  | mk h1 h2 h3 h4 h5 h6 h7 h8 h9 h10 h11 hA hC _ h12 h13 ih =>
    refine .mk h1 h2 h3 (h4.keep hk) h5 h6 h7 (h8.keep hk) h9 h10 h11 hA (fun i p hp => ⟨(hC i p hp).1, fun j v hv => ?_⟩) ih h12 h13
    have hF := (hA (by have := (List.getElem?_eq_some_iff.1 hp).1; omega)).2
    exact (hk _ hF).trans ((hC i p hp).2 j v hv)
theorem IsVal.mono {w : World} {F G : Nat → Prop} {v : DVal} {cs : List Value} (h : IsVal w F v cs) (hg : ∀ k, F k → G k) : IsVal w G v cs := by
  induction h with
  | mk h1 h2 h3 h4 h5 h6 h7 h8 h9 h10 h11 hA hC _ h12 h13 ih => exact .mk h1 h2 h3 (h4.mono hg) h5 h6 h7 (h8.mono hg) h9 h10 h11 (fun h => ⟨(hA h).1, hg _ (hA h).2⟩) hC ih h12 h13
theorem IsVal.bel {w w' : World} {B : Nat} {v : DVal} {cs : List Value} (h : IsVal w (· < B) v cs) (hb : Below B w w') : IsVal w' (· < B) v cs := h.keep fun _ hq => hb.cell hq
theorem IsVal.more {w w' : World} {v : DVal} {cs : List Value} (h : IsVal w (· < w.heap.size) v cs) (hb : Below w.heap.size w w') : IsVal w' (· < w'.heap.size) v cs := (h.bel hb).mono fun _ hk => Nat.lt_of_lt_of_le hk hb.size
theorem IsVal.length {w : World} {F : Nat → Prop} {v : DVal} {cs : List Value} (h : IsVal w F v cs) : cs.length = 6 := by cases h; rfl
theorem IsVal.one {w : World} {F : Nat → Prop} {v : DVal} {cs : List Value} (h : IsVal w F v cs) : ∀ v ∈ cs, v.oneCell' = true := by cases h; simp [Value.oneCell']

theorem IsVal.kind_ {w : World} {F : Nat → Prop} {v : DVal} {cs : List Value} (h : IsVal w F v cs) : cs[0]? = some (.int .i64 v.kind) ∧ I64 v.kind := by
  cases h with
  | mk h1 h2 h3 h4 h5 h6 h7 h8 h9 h10 h11 hA hC hP h12 h13 => exact ⟨rfl, h1⟩
theorem IsVal.n_ {w : World} {F : Nat → Prop} {v : DVal} {cs : List Value} (h : IsVal w F v cs) : cs[1]? = some (.int .i64 v.n) ∧ I64 v.n := by
  cases h with
  | mk h1 h2 h3 h4 h5 h6 h7 h8 h9 h10 h11 hA hC hP h12 h13 => exact ⟨rfl, h2⟩
theorem IsVal.s_ {w : World} {F : Nat → Prop} {v : DVal} {cs : List Value} (h : IsVal w F v cs) : cs[2]? = some (sv v.s) ∧ v.s.length ≤ maxLen := by
  cases h with
  | mk h1 h2 h3 h4 h5 h6 h7 h8 h9 h10 h11 hA hC hP h12 h13 => exact ⟨rfl, h3⟩
theorem IsVal.names_ {w : World} {F : Nat → Prop} {v : DVal} {cs : List Value} (h : IsVal w F v cs) : ∃ A c, cs[3]? = some (.slice A v.names.length c) ∧ RF w F 1 A v.names.length (v.names.map sv) ∧ (∀ x ∈ v.names, x.length ≤ maxLen) ∧ v.names.length ≤ c ∧ v.names.length ≤ 140737488351232 := by
  cases h with
  | mk h1 h2 h3 h4 h5 h6 h7 h8 h9 h10 h11 hA hC hP h12 h13 => exact ⟨_, _, rfl, h4, h5, h6, h7⟩
theorem IsVal.ids_ {w : World} {F : Nat → Prop} {v : DVal} {cs : List Value} (h : IsVal w F v cs) : ∃ A c, cs[4]? = some (.slice A v.ids.length c) ∧ RF w F 1 A v.ids.length (v.ids.map uv) ∧ (∀ x ∈ v.ids, U64 (x : Int)) ∧ v.ids.length ≤ c ∧ v.ids.length ≤ 140737488351232 := by
  cases h with
  | mk h1 h2 h3 h4 h5 h6 h7 h8 h9 h10 h11 hA hC hP h12 h13 => exact ⟨_, _, rfl, h8, h9, h10, h11⟩
theorem IsVal.parts_ {w : World} {F : Nat → Prop} {v : DVal} {cs : List Value} (h : IsVal w F v cs) : ∃ A c, cs[5]? = some (.slice A v.parts.length c) ∧ v.parts.length ≤ c ∧ v.parts.length ≤ 140737488351232 ∧
    (0 < v.parts.length → ∃ b o, A = some ⟨b, o, none⟩ ∧ F b ∧ ∀ (i : Nat) (p : DVal), v.parts[i]? = some p → ∃ C : List Value, C.length = 6 ∧ w.rangeAt b (o + i * 6) C ∧ IsVal w F p C) := by
  cases h with
  | mk h1 h2 h3 h4 h5 h6 h7 h8 h9 h10 h11 hA hC hP h12 h13 => exact ⟨_, _, rfl, h12, h13, fun h0 => ⟨_, _, (hA h0).1, (hA h0).2, fun i p hp => ⟨_, (hC i p hp).1, (hC i p hp).2, hP i p hp⟩⟩⟩

theorem IsVal.partsF {w : World} {F : Nat → Prop} {v : DVal} {cs : List Value} (h : IsVal w F v cs) : ∃ A c, ∃ C : Nat → List Value, cs[5]? = some (.slice A v.parts.length c) ∧ v.parts.length ≤ c ∧ v.parts.length ≤ 140737488351232 ∧ (∀ (i : Nat) (p : DVal), v.parts[i]? = some p → IsVal w F p (C i)) ∧
    (0 < v.parts.length → ∃ b o, A = some ⟨b, o, none⟩ ∧ F b ∧ ∀ i, i < v.parts.length → (C i).length = 6 ∧ w.rangeAt b (o + i * 6) (C i)) := by
  cases h with
  | mk h1 h2 h3 h4 h5 h6 h7 h8 h9 h10 h11 hA hC hP h12 h13 => exact ⟨_, _, _, rfl, h12, h13, hP, fun h0 => ⟨_, _, (hA h0).1, (hA h0).2, fun i hi => hC i _ (List.getElem?_eq_getElem hi)⟩⟩
theorem DVal.ext_iff' (a b : DVal) : a = b ↔ a.kind = b.kind ∧ a.n = b.n ∧ a.s = b.s ∧ a.names = b.names ∧ a.ids = b.ids ∧ a.parts = b.parts := by
  obtain ⟨k, n, s, l, m, ps⟩ := a
  obtain ⟨k', n', s', l', m', ps'⟩ := b
  simp [DVal.kind, DVal.n, DVal.s, DVal.names, DVal.ids, DVal.parts]

/-! ### Paths -/
structure DStep where
  name : Str
  id : Nat
/-- The steps of a path, as rows of two cells. -/
def stepCells (l : List DStep) : List Value := l.flatMap fun s => [sv s.name, uv s.id]
structure IsPath (w : World) (F : Nat → Prop) (A : Option Addr) (l : List DStep) : Prop where
  rd : RF w F 2 A l.length (stepCells l)
  sz : ∀ s ∈ l, s.name.length ≤ maxLen ∧ U64 (s.id : Int)
end Go.Proofs.Ytpnjkebjdclkfaa
