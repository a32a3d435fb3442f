/- The walk over trees: what a function's code yields, operation by operation; calls by contract. Conditions: none. -/
import Derived.Test.YtpnjkebjdclkfaaTm
namespace Go.Proofs.Ytpnjkebjdclkfaa
open Go.RowKit

def D.okCell : D → Bool
  | .tup _ => false
  | .v (.tuple _) => false
  | .v (.agg _) => false
  | _ => true
def splice (cs : List D) (off : Nat) (ds : List D) : List D := cs.take off ++ ds ++ cs.drop (off + ds.length)
def fillD (pl : Nat → Option (Nat × Nat)) : List D → List (Nat × D) → Prop × List D
  | cs, [] => (True, cs)
  | cs, (i, d) :: r => match pl i with
    | some (off, n) => (d.okCell = true ∧ d.width = n ∧ off + n ≤ cs.length ∧ (fillD pl (splice cs off d.cells) r).1, (fillD pl (splice cs off d.cells) r).2)
    | none => (False, cs)
def zeroD (P : Program) (t : TypeId) : List D := match (P.info? t).bind (·.zero) with
  | some z => z.cells.toList.map ofV
  | none => []
/-- The zero value is there, and is made of single cells. -/
def zeroOk (P : Program) (t : TypeId) : Bool := (P.underlying t).isSome && match P.info? t with
  | some i => match i.zero with
    | some z => z.cells.all (·.oneCell') && z.cells.size == i.size
    | none => false
  | none => false
def placeT (P : Program) (t : TypeId) : Option (Nat → Option (Nat × Nat)) := match P.underlying t with
  | some (.struct fs) => bif fs.all (fun f => (P.info? f.type).isSome) then some fun i => (fs[i]?).map fun f => (f.offset, szOf P f.type) else none
  | some (.array _ e) => bif (P.info? e).isSome then some fun i => some (i * szOf P e, szOf P e) else none
  | _ => none

/-- The call of function g in state S yields what K says of its value and of the state behind it. -/
def DCalls (P : Program) (g : FuncId) (args : List D) (S : St) (K : D → St → Prop) : Prop :=
  ∀ base η w vs, Mem P base S η w → RepL P w η (Fix P S η) args vs →
    (callFunc g vs.toArray).run P w = .ok (.enter g vs.toArray) w ∧
    Calls P g vs.toArray w fun e w' => ∃ d S' η' v, K d S' ∧ e = .returned v ∧ Rep P w' η' (Fix P S' η') d v ∧ Goes P base S η w S' η' w'
/-- It yields d, and leaves the state as it was. -/
def DAt (P : Program) (g : FuncId) (args : List D) (S : St) (d : D) : Prop := DCalls P g args S fun d' S' => d' = d ∧ S' = S
def DPure (P : Program) (g : FuncId) (args : List D) (d : D) : Prop := ∀ S, DAt P g args S d
theorem DCalls.mono {P : Program} {g : FuncId} {args : List D} {S : St} {K K' : D → St → Prop} (h : DCalls P g args S K) (hk : ∀ d S', K d S' → K' d S') : DCalls P g args S K' := fun base η w vs hM hr =>
  ⟨(h base η w vs hM hr).1, (h base η w vs hM hr).2.mono fun _ _ ⟨d, S', η', v, h1, h2⟩ => ⟨d, S', η', v, hk d S' h1, h2⟩⟩
theorem DCalls.of_pure {P : Program} {g : FuncId} {args : List D} {S : St} {K : D → St → Prop} {d : D} (h : DPure P g args d) (hk : K d S) : DCalls P g args S K := (h S).mono fun _ _ ⟨h1, h2⟩ => by rw [h1, h2]; exact hk

/-- An operation that makes memory of nobody's. -/
def dnew (P : Program) (f : Fm) (S : St) : Op → Option (Prop × D)
  | .buildSlice t n ps => match elT P t with
    | some e => some (zeroT P e = true ∧ ps.toList.map (·.1) = List.range n ∧ n * szOf P e ≤ 16777216 ∧ (∀ d ∈ ps.toList.map (fun p => ev f p.2), d.okCell = true ∧ d.width = szOf P e), .sl .full (ps.toList.map fun p => ev f p.2))
    | none => none
  | .build t ps => match placeT P t with
    | some pl => some (zeroOk P t = true ∧ (fillD pl (zeroD P t) (ps.toList.map fun p => (p.1, ev f p.2))).1, .agg (fillD pl (zeroD P t) (ps.toList.map fun p => (p.1, ev f p.2))).2)
    | none => none
  | .call ⟨.builtin .append, args, ts⟩ => match args.toList.map (ev f), ts.toList with
    | [.sl .full es, .sl _ es2], [t, tx] => match elT P t with
      | some e => some ((elT P tx).isSome = true ∧ zeroT P e = true ∧ (∀ d ∈ es, d.width = szOf P e) ∧ (∀ d ∈ es2, d.width = szOf P e) ∧ es.length + es2.length ≤ 140737488355328 ∧ (es.length + es2.length) * bytesOf P e ≤ 140737488355328, .sl .no (es ++ es2))
      | none => none
    | _, _ => none
  | _ => none
def onVal (o : Option (Prop × D)) (K : D → Prop) : Prop := match o with
  | some (c, d) => c ∧ K d
  | none => False
def onVal2 (o : Option (Prop × D)) (o' : Option (Prop × D)) (K : D → Prop) : Prop := match o with
  | some (c, d) => c ∧ K d
  | none => onVal o' K
/-- One operation: what it yields goes on in K. -/
def dop (P : Program) (f : Fm) (S : St) (ty : TypeId) (op : Op) (K : D → St → Prop) : Prop := match op with
  | .alloc t => zeroOk P t = true ∧ K (.loc S.next 0) (S.add (.box t (zeroD P t)))
  | .box t x => (ev f x).okCell = true ∧ K (.loc S.next 0) (S.add (.box t (ev f x).cells))
  | .store t x y => match ev f x with
    | .loc k off => match S.ob k with
      | some (.box t' cs) => (ev f y).okCell = true ∧ (P.info? t).isSome = true ∧ (ev f y).width = szOf P t ∧ off + szOf P t ≤ cs.length ∧ K undefD (S.set k (.box t' (splice cs off (ev f y).cells)))
      | _ => False
    | _ => False
  | .call ⟨.value x, args, _⟩ => match ev f x with
    | .fn (.func g) fs cs => DCalls P g (fs ++ args.toList.map (ev f) ++ cs) S K
    | _ => False
  | .call ⟨.builtin .append, args, ts⟩ => match args.toList.map (ev f), ts.toList with
    | [.sl own es, .sl _ es2], [t, tx] => match elT P t with
      | some e => (elT P tx).isSome = true ∧ zeroT P e = true ∧ (∀ d ∈ es, d.width = szOf P e) ∧ (∀ d ∈ es2, d.width = szOf P e) ∧ (match own with | .full => True | .row g => S.ob g = some (.row e es.length) | .no => False) ∧ es.length + es2.length ≤ 140737488355328 ∧ (es.length + es2.length) * bytesOf P e ≤ 140737488355328 ∧ K (.sl (.row S.next) (es ++ es2)) (S.grow own e (es.length + es2.length))
      | none => False
    | _, _ => False
  | .buildSlice t n ps => onVal (dnew P f S (.buildSlice t n ps)) fun d => K d S
  | .build t ps => onVal (dnew P f S (.build t ps)) fun d => K d S
  | op => onVal (dval P f S ty op) fun d => K d S
/-- One operation that leaves the state as it is. -/
def dquiet (P : Program) (f : Fm) (S : St) (ty : TypeId) (op : Op) (K : D → Prop) : Prop := match op with
  | .call ⟨.value x, args, _⟩ => match ev f x with
    | .fn (.func g) fs cs => ∃ d, DAt P g (fs ++ args.toList.map (ev f) ++ cs) S d ∧ K d
    | _ => False
  | op => onVal2 (dnew P f S op) (dval P f S ty op) K
/-- Is an operation wanted? -/
def dwanted (ops : Array Oper) (f : Fm) (o : Oper) (yes no : Prop) : Prop := match o.guard with
  | none => yes
  | some (j, want) => match (ops[j]?).bind (·.dst) with
    | some t => match f t with
      | .v (.bool b) => (b = want → yes) ∧ (b = !want → no)
      | .tup [] => no
      | _ => False
    | none => False
def dops (P : Program) (ops : Array Oper) (Q : Fm → St → Prop) : List Oper → Fm → St → Prop
  | [], f, S => Q f S
  | o :: r, f, S => dwanted ops f o (dop P f S o.type o.op fun d S' => dops P ops Q r (put f o.dst d) S') (dops P ops Q r (put f o.dst undefD) S)
def dhead (P : Program) (ops : Array Oper) (S : St) (Q : Fm → Prop) : List Oper → Fm → Prop
  | [], f => Q f
  | o :: r, f => dwanted ops f o (dquiet P f S o.type o.op fun d => dhead P ops S Q r (put f o.dst d)) (dhead P ops S Q r (put f o.dst undefD))

section
variable {P : Program} {base : Nat} {S : St} {η : Names} {w : World} {f : Fm} {a : Act}
theorem foldl_set (off : Nat) : ∀ (vs : List Value) (j : Nat) (cells : Array Value), off + j + vs.length ≤ cells.size →
    (vs.zipIdx j).foldl (fun (cs : Array Value) (p : Value × Nat) => cs.setIfInBounds (off + p.2) p.1) cells = (cells.toList.take (off + j) ++ vs ++ cells.toList.drop (off + j + vs.length)).toArray
  | [], j, cells, _ => by simp
  | v :: vs, j, cells, h => by
    simp only [List.length_cons] at h
    simp only [List.zipIdx_cons, List.foldl_cons]
    rw [foldl_set off vs (j + 1) _ (by simp; omega)]
    apply Array.ext'
    have hcl : cells.toList.length = cells.size := Array.length_toList
    apply List.ext_getElem?
    intro i
    simp only [Array.toList_setIfInBounds, List.append_assoc, List.getElem?_append, List.getElem?_take, List.getElem?_drop, List.length_take, List.length_set, List.getElem?_set, hcl, List.length_cons, List.getElem?_cons]
    by_cases h1 : i < off + j
    · have e1 : i < min (off + (j + 1)) cells.size := by omega
      have e2 : i < min (off + j) cells.size := by omega
      have e3 : ¬ (off + j = i) := by omega
      simp [e1, e2, e3, h1, show i < off + (j + 1) by omega]
    · by_cases h2 : i = off + j
      · subst h2
        have e1 : off + j < min (off + (j + 1)) cells.size := by omega
        have e2 : ¬ (off + j < min (off + j) cells.size) := by omega
        have e4 : off + j - min (off + j) cells.size = 0 := by omega
        simp [e1, e2, e4, show off + j < off + (j + 1) by omega, show off + j < cells.size by omega]
      · have e1 : ¬ (i < min (off + (j + 1)) cells.size) := by omega
        have e2 : ¬ (i < min (off + j) cells.size) := by omega
        have e3 : i - min (off + j) cells.size = (i - min (off + (j + 1)) cells.size) + 1 := by omega
        simp only [e1, e2, if_false]
        by_cases h3 : i - min (off + (j + 1)) cells.size < vs.length
        · have e5 : i - min (off + j) cells.size < vs.length + 1 := by omega
          have e6 : i - min (off + j) cells.size ≠ 0 := by omega
          have e7 : i - min (off + j) cells.size - 1 = i - min (off + (j + 1)) cells.size := by omega
          simp [h3, e5, e6, e7]
        · have e5 : ¬ (i - min (off + j) cells.size < vs.length + 1) := by omega
          have e8 : off + (j + 1) + vs.length + (i - min (off + (j + 1)) cells.size - vs.length) = off + j + (vs.length + 1) + (i - min (off + j) cells.size - (vs.length + 1)) := by omega
          have e9 : ¬ (off + j = off + (j + 1) + vs.length + (i - min (off + (j + 1)) cells.size - vs.length)) := by omega
          simp only [h3, e5, if_false]
          rw [if_neg e9, e8]
theorem splice_rep {X : Nat → Nat → Prop} {cs ds : List D} {vs us : List Value} {off : Nat} (h : RepL P w η X cs vs) (k : RepL P w η X ds us) : RepL P w η X (splice cs off ds) (vs.take off ++ us ++ vs.drop (off + us.length)) := by
  unfold splice
  rw [← k.length]
  exact ((h.take off).append k).append (h.drop _)
theorem Rep.cells_ {X : Nat → Nat → Prop} {d : D} {v : Value} (h : Rep P w η X d v) (hk : d.okCell = true) : RepL P w η X d.cells v.cells.toList ∧ (∀ x ∈ v.cells.toList, x.oneCell' = true) ∧ v.cells.size = d.width := by
  have one : ∀ (d : D) (v : Value), d.cells = [d] → v.cells = #[v] → v.oneCell' = true → Rep P w η X d v → RepL P w η X d.cells v.cells.toList ∧ (∀ x ∈ v.cells.toList, x.oneCell' = true) ∧ v.cells.size = d.width := fun d v h1 h2 h3 h4 => by
    rw [D.width, h1, h2]
    refine ⟨?_, fun x hx => by simp at hx; subst hx; exact h3, rfl⟩
    show RepL P w η X [d] [v]
    simp only [RepL]
    exact ⟨v, [], rfl, h4, rfl⟩
  cases d with
  | v x =>
    have := h
    simp only [Rep] at this
    subst this
    cases v <;> first | exact one _ _ rfl rfl rfl h | (simp [D.okCell] at hk)
  | agg cs =>
    simp only [Rep] at h
    obtain ⟨vs, rfl, h2, h3⟩ := h
    exact ⟨h2, h3, h2.length⟩
  | tup cs => simp [D.okCell] at hk
  | fn g fs cs =>
    have := h
    simp only [Rep] at this
    obtain ⟨us, vs, rfl, _⟩ := this
    exact one _ _ rfl rfl rfl h
  | ifc t d =>
    have := h
    simp only [Rep] at this
    obtain ⟨x, rfl, _⟩ := this
    exact one _ _ rfl rfl rfl h
  | loc k off =>
    have := h
    simp only [Rep] at this
    obtain ⟨b, _, rfl⟩ := this
    exact one _ _ rfl rfl rfl h
  | rd cs off =>
    have := h
    simp only [Rep] at this
    obtain ⟨b, o, rfl, _⟩ := this
    exact one _ _ rfl rfl rfl h
  | sl own es =>
    have := h
    simp only [Rep] at this
    obtain ⟨A, c, rfl, _⟩ := this
    exact one _ _ rfl rfl rfl h
theorem fill_sound {X : Nat → Nat → Prop} (pl : Nat → Option (Nat × Nat)) : ∀ (ps : List (Nat × D)) (qs : List (Nat × Value)) (cs : List D) (vs : List Value), ps.map (·.1) = qs.map (·.1) → RepL P w η X (ps.map (·.2)) (qs.map (·.2)) → RepL P w η X cs vs → (∀ x ∈ vs, x.oneCell' = true) → (fillD pl cs ps).1 →
    ∃ us : List Value, Instr.fill pl vs.toArray qs = some us.toArray ∧ RepL P w η X (fillD pl cs ps).2 us ∧ (∀ x ∈ us, x.oneCell' = true)
  | [], qs, cs, vs, h1, h2, h3, h4, _ => by
    have : qs = [] := by cases qs <;> simp_all
    subst this
    exact ⟨vs, rfl, h3, h4⟩
  | (i, d) :: ps, qs, cs, vs, h1, h2, h3, h4, h5 => by
    obtain ⟨⟨j, v⟩, qs, rfl⟩ : ∃ q qs', qs = q :: qs' := by
      cases qs with
      | nil => simp at h1
      | cons q qs => exact ⟨q, qs, rfl⟩
    simp only [List.map_cons, List.cons.injEq] at h1 h2
    obtain ⟨rfl, h1⟩ := h1
    simp only [RepL] at h2
    obtain ⟨x, xs, hx, h6, h7⟩ := h2
    injection hx with hx1 hx2
    subst hx1 hx2
    unfold fillD at h5 ⊢
    cases hp : pl i with
    | none => rw [hp] at h5; exact absurd h5 id
    | some q =>
      obtain ⟨off, n⟩ := q
      rw [hp] at h5
      obtain ⟨k1, k2, k3, k4⟩ := h5
      obtain ⟨e1, e2, e3⟩ := h6.cells_ k1
      have hl := h3.length
      have hvl : v.cells.toList.length = v.cells.size := Array.length_toList
      have hset := foldl_set off v.cells.toList 0 vs.toArray (by simp only [List.size_toArray]; omega)
      simp only [Nat.add_zero] at hset
      obtain ⟨us, g1, g2, g3⟩ := fill_sound pl ps qs (splice cs off d.cells) (vs.take off ++ v.cells.toList ++ vs.drop (off + v.cells.toList.length)) h1 h7 (splice_rep h3 e1) (fun x hx => by
        rcases List.mem_append.1 hx with hx | hx
        · rcases List.mem_append.1 hx with hx | hx
          · exact h4 x (List.mem_of_mem_take hx)
          · exact e2 x hx
        · exact h4 x (List.mem_of_mem_drop hx)) k4
      refine ⟨us, ?_, g2, g3⟩
      unfold Instr.fill
      simp only [hp]
      rw [if_neg (by simp only [List.size_toArray, Bool.or_eq_true, decide_eq_true_eq]; omega)]
      have hz : v.cells.zipIdx.foldl (fun (cs : Array Value) (p : Value × Nat) => cs.setIfInBounds (off + p.2) p.1) vs.toArray = (vs.take off ++ v.cells.toList ++ vs.drop (off + v.cells.toList.length)).toArray := by
        rw [← Array.foldl_toList, Array.toList_zipIdx]
        exact hset
      rw [hz]
      exact g1
theorem zeroD_rep {X : Nat → Nat → Prop} : ∀ (l : List Value), RepL P w η X (l.map ofV) l
  | [] => by simp [RepL]
  | x :: l => by simp only [List.map_cons, RepL]; exact ⟨x, l, rfl, Rep.ofV x, zeroD_rep l⟩
theorem zeroOk_spec {t : TypeId} (h : zeroOk P t = true) : ∃ z i, P.info? t = some i ∧ i.zero = some z ∧ zeroD P t = z.cells.toList.map ofV ∧ (∀ x ∈ z.cells.toList, x.oneCell' = true) ∧ z.cells.size = i.size := by
  simp only [zeroOk, Bool.and_eq_true] at h
  obtain ⟨_, h⟩ := h
  split at h
  · rename_i i hi
    split at h
    · rename_i z hz
      simp only [Bool.and_eq_true, beq_iff_eq] at h
      refine ⟨z, i, hi, hz, ?_, ?_, h.2⟩
      · unfold zeroD
        rw [hi]
        simp only [Option.bind_some, hz]
      · intro x hx
        exact Array.all_eq_true_iff_forall_mem.1 h.1 x (by simpa using hx)
    · cases h
  · cases h
def Names.cut (η : Names) (n : Nat) : Names := fun k => if k < n then η k else none
/-- Names from n on are given up; what is left of the state bears none of them. -/
theorem goes_fin (hM : Mem P base S η w) {S1 S2 : St} {η1 : Names} {w1 : World} (G : Goes P base S η w S1 η1 w1) (hn : S2.next ≤ S1.next) (hn0 : S.next ≤ S2.next)
    (hs : ∀ k o, S2.ob k = some o → S1.ob k = some o ∧ k < S2.next ∧ ∀ t cs, o = .box t cs → S.ob k = some o ∨ allL (· < S2.next) cs) :
    Goes P base S η w S2 (η1.cut S2.next) w1 ∧ ∀ d v, d.all (· < S2.next) → Rep P w1 η1 (Fix P S1 η1) d v → Rep P w1 (η1.cut S2.next) (Fix P S2 (η1.cut S2.next)) d v := by
  have cut : ∀ k b, (η1.cut S2.next) k = some b → k < S2.next ∧ η1 k = some b := fun k b hk => by
    simp only [Names.cut] at hk
    by_cases e : k < S2.next
    · rw [if_pos e] at hk; exact ⟨e, hk⟩
    · rw [if_neg e] at hk; cases hk
  have cut' : ∀ k, k < S2.next → (η1.cut S2.next) k = η1 k := fun k hk => by simp only [Names.cut]; rw [if_pos hk]
  have K : Keep (· < S2.next) w1 η1 (Fix P S1 η1) w1 (η1.cut S2.next) (Fix P S2 (η1.cut S2.next)) :=
    ⟨Nat.le_refl _, fun b i _ hx => ⟨fun k o hk hk' => hx k o (cut k _ hk).2 (hs k o hk').1, rfl⟩, fun k b hk hb => by rw [cut' k hk]; exact hb, fun _ c _ hx => ⟨c, hx, rfl⟩⟩
  have lt0 : ∀ k, (η k).isSome = true → k < S2.next := fun k hk => by
    rcases Nat.lt_or_ge k S.next with h | h
    · omega
    · rw [hM.dead k h] at hk; cases hk
  have nm : ∀ k t cs, S2.ob k = some (.box t cs) → allL (· < S2.next) cs := fun k t cs hk => by
    rcases (hs k _ hk).2.2 t cs rfl with h | h
    · obtain ⟨b, hb⟩ := hM.live k t cs h
      obtain ⟨vs, _, k2, _⟩ := hM.box k t cs b h hb
      exact allL_mono lt0 (RepL.names k2)
    · exact h
  have sm : ∀ k, (S2.ob k).isSome = true → (S1.ob k).isSome = true := fun k hk => by
    obtain ⟨o, ho⟩ := Option.isSome_iff_exists.1 hk
    rw [(hs k o ho).1]; rfl
  refine ⟨⟨⟨G.mem.base_, fun k hk => by simp only [Names.cut]; rw [if_neg (by omega)], fun k hk => ?_, fun k t cs hk => ?_, fun k k' b h1 h2 h3 h4 => G.mem.inj k k' b (cut k _ h1).2 (cut k' _ h2).2 (sm k h3) (sm k' h4), fun k b hk => G.mem.in_ k b (cut k _ hk).2, fun k t cs b h1 h2 => ?_, fun k e n b h1 h2 => G.mem.row k e n b (hs k _ h1).1 (cut k _ h2).2⟩,
    ⟨G.keep.size, fun b i hb hx => ?_, fun k b _ hk => ?_, G.keep.shp⟩, G.below⟩, fun d v hd hr => Rep.keep K hd hr⟩
  · cases ho : S2.ob k with
    | none => rfl
    | some o => have := (hs k o ho).2.1; omega
  · obtain ⟨b, hb⟩ := G.mem.live k t cs (hs k _ hk).1
    exact ⟨b, by rw [cut' k (hs k _ hk).2.1]; exact hb⟩
  · obtain ⟨vs, k1, k2, k3⟩ := G.mem.box k t cs b (hs k _ h1).1 (cut k _ h2).2
    exact ⟨vs, k1, RepL.keep K (nm k t cs h1) k2, k3⟩
  · have h1 := G.keep.fix b i hb hx
    exact ⟨fun k o hk hk' => h1.1 k o (cut k _ hk).2 (hs k o hk').1, h1.2⟩
  · have h1 := G.keep.eta k b trivial hk
    rw [cut' k (lt0 k (by rw [hk]; rfl))]
    exact h1
theorem goes_back (hM : Mem P base S η w) {S1 : St} {η1 : Names} {w1 : World} (G : Goes P base S η w S1 η1 w1) (hn : S.next ≤ S1.next) (hs : ∀ k o, S.ob k = some o → S1.ob k = some o) :
    Goes P base S η w S (η1.cut S.next) w1 ∧ ∀ d v, d.all (· < S.next) → Rep P w1 η1 (Fix P S1 η1) d v → Rep P w1 (η1.cut S.next) (Fix P S (η1.cut S.next)) d v :=
  goes_fin hM G hn (Nat.le_refl _) fun k o ho => ⟨hs k o ho, (by
    rcases Nat.lt_or_ge k S.next with h | h
    · exact h
    · rw [hM.fresh k h] at ho; cases ho), fun _ _ _ => .inl ho⟩

theorem run_alloc_new (elem : TypeId) {i : TypeInfo} {z : Value} (hi : P.info? elem = some i) (hz : i.zero = some z) : (Instr.alloc elem true (.tuple #[])).run P w = .ok (.pointer (some ⟨w.heap.size, 0, none⟩)) (w.alloc (.cells z.cells elem)) := by
  simp [Instr.alloc, zeroValue, typeInfo, hi, hz, newVar, newRow]
theorem run_box_new (elem : TypeId) (v : Value) : (Instr.box elem v).run P w = .ok (.pointer (some ⟨w.heap.size, 0, none⟩)) (w.alloc (.cells v.cells elem)) := by
  simp [Instr.box, newVar, newRow]
theorem run_store_box {t t' : TypeId} {b off : Nat} {v : Value} {vs : List Value} (hb : w.heap[b]? = some (.cells vs.toArray t' (0, 0))) {i : TypeInfo} (hi : P.info? t = some i) (hs : v.cells.size = i.size) (h1 : ∀ x ∈ v.cells.toList, x.oneCell' = true) (hl : off + i.size ≤ vs.length) :
    (Instr.storeAt t (.pointer (some ⟨b, off, none⟩)) v).run P w = .ok () (w.setRow b (vs.take off ++ v.cells.toList ++ vs.drop (off + v.cells.toList.length)).toArray) := by
  have hvl : v.cells.toList.length = v.cells.size := Array.length_toList
  have := run_storeCells_at P b off t' v.cells.toList 0 vs.toArray w hb (by simp only [List.size_toArray]; omega) h1
  simp only [Nat.add_zero] at this
  simp [Instr.storeAt, Instr.sureAddr, storeVar, sizeOf, typeInfo, hi, hs, this]
theorem fill_seq {n : Nat} (qs : List (Nat × Value)) : ∀ (k : Nat) (done rest : List Value), qs.map (·.1) = List.range' k qs.length → done.length = k * n → rest.length = qs.length * n → (∀ q ∈ qs, q.2.cells.size = n) →
    Instr.fill (fun i => some (i * n, n)) (done ++ rest).toArray qs = some (done ++ qs.flatMap fun q => q.2.cells.toList).toArray := by
  induction qs with
  | nil => intro k done rest _ h2 h3 _; have : rest = [] := List.eq_nil_of_length_eq_zero (by simpa using h3); subst this; simp [Instr.fill]
  | cons q qs ih =>
    intro k done rest h1 h2 h3 h4
    obtain ⟨j, v⟩ := q
    simp only [List.map_cons, List.length_cons, List.range'_succ, List.cons.injEq] at h1
    obtain ⟨rfl, h1⟩ := h1
    have hv : v.cells.size = n := h4 (j, v) (by simp)
    have hvl : v.cells.toList.length = v.cells.size := Array.length_toList
    have hrl : rest.length = n + qs.length * n := by rw [h3, List.length_cons, Nat.add_mul]; omega
    unfold Instr.fill
    simp only
    have hset := foldl_set (j * n) v.cells.toList 0 (done ++ rest).toArray (by simp only [List.size_toArray, List.length_append]; omega)
    have hz : v.cells.zipIdx.foldl (fun (cs : Array Value) (p : Value × Nat) => cs.setIfInBounds (j * n + p.2) p.1) (done ++ rest).toArray = ((done ++ v.cells.toList) ++ rest.drop n).toArray := by
      rw [← Array.foldl_toList, Array.toList_zipIdx, hset]
      simp only [Nat.add_zero]
      rw [show (done ++ rest).take (j * n) = done by rw [← h2]; exact List.take_left, List.drop_append, List.drop_eq_nil_of_le (by omega), List.nil_append]
      congr 2
      congr 1
      omega
    rw [if_neg (by simp only [List.size_toArray, List.length_append, Bool.or_eq_true, decide_eq_true_eq]; omega), hz]
    rw [ih (j + 1) (done ++ v.cells.toList) (rest.drop n) h1 (by rw [List.length_append, Nat.add_mul]; omega) (by rw [List.length_drop]; omega) (fun q hq => h4 q (by simp [hq]))]
    simp
theorem run_sizeAt (f : Field) (h : (P.info? f.type).isSome = true) : (do pure (f.offset, ← sizeOf f.type) : Sem (Nat × Nat)).run P w = .ok (f.offset, szOf P f.type) w := by
  obtain ⟨ti, hti⟩ := Option.isSome_iff_exists.1 h
  simp [sizeOf, typeInfo, hti, szOf]
theorem run_places : ∀ l : List Field, (∀ f ∈ l, (P.info? f.type).isSome = true) → (l.mapM (m := Sem) fun f => do pure (f.offset, ← sizeOf f.type)).run P w = .ok (l.map fun f => (f.offset, szOf P f.type)) w
  | [], _ => rfl
  | f :: l, hl => by
    have h1 := run_sizeAt (P := P) (w := w) f (hl f (by simp))
    have h2 := run_places l fun g hg => hl g (by simp [hg])
    rw [List.mapM_cons, Sem.run_bind, h1, Result.andThen_ok, Sem.run_bind, h2, Result.andThen_ok]
    rfl
theorem run_build_at {t : TypeId} {pl : Nat → Option (Nat × Nat)} (h : placeT P t = some pl) {z : Value} {i : TypeInfo} (hi : P.info? t = some i) (hz : i.zero = some z) (qs : Array (Nat × Value)) {us : List Value} (hf : Instr.fill pl z.cells qs.toList = some us.toArray) :
    (Instr.build t qs).run P w = .ok (.agg us.toArray) w := by
  unfold placeT at h
  split at h
  · rename_i fs hu
    cases hb : fs.all fun f => (P.info? f.type).isSome with
    | false => rw [hb] at h; cases h
    | true =>
      rw [hb] at h
      injection h with h
      subst h
      have hm : (fs.mapM (m := Sem) fun f => do pure (f.offset, ← sizeOf f.type)).run P w = .ok (fs.map fun f => (f.offset, szOf P f.type)) w := by
        have hl := run_places (P := P) (w := w) fs.toList fun f hf => Array.all_eq_true_iff_forall_mem.1 hb f (by simpa using hf)
        rw [Array.mapM_eq_mapM_toList, map_eq_pure_bind, Sem.run_bind, hl, Result.andThen_ok]
        show Result.ok _ w = _
        congr 1
        apply Array.ext'
        simp
      have hg : (fun i : Nat => (fs.map fun f : Field => (f.offset, szOf P f.type))[i]?) = fun i => (fs[i]?).map fun f : Field => (f.offset, szOf P f.type) := by
        funext i
        simp
      unfold Instr.build
      have hz' : (zeroValue t).run P w = .ok z w := by simp [zeroValue, typeInfo, hi, hz]
      rw [Sem.run_bind, hz', Result.andThen_ok, Sem.run_bind, run_underlying hu, Result.andThen_ok]
      simp only
      rw [Sem.run_bind, hm, Result.andThen_ok]
      rw [hg, hf]
      rfl
  · rename_i n e hu
    cases hb : (P.info? e).isSome with
    | false => rw [hb] at h; cases h
    | true =>
      rw [hb] at h
      injection h with h
      subst h
      obtain ⟨ti, hti⟩ := Option.isSome_iff_exists.1 hb
      have hz' : (zeroValue t).run P w = .ok z w := by simp [zeroValue, typeInfo, hi, hz]
      have hs : (sizeOf e).run P w = .ok (szOf P e) w := by simp [sizeOf, typeInfo, hti, szOf]
      unfold Instr.build
      rw [Sem.run_bind, hz', Result.andThen_ok, Sem.run_bind, run_underlying hu, Result.andThen_ok]
      simp only
      rw [Sem.run_bind, hs, Result.andThen_ok, hf]
      rfl
  · cases h
theorem run_buildSlice_at {t e : TypeId} (he : elT P t = some e) (hz : zeroT P e = true) (n : Nat) (qs : Array (Nat × Value)) (h1 : qs.toList.map (·.1) = List.range n) (h2 : ∀ q ∈ qs.toList, q.2.cells.size = szOf P e) (h3 : n * szOf P e ≤ 16777216) :
    (Instr.buildSlice t n qs).run P w = .ok (.slice (some ⟨w.heap.size, 0, none⟩) n n) (w.alloc (.cells (qs.toList.flatMap fun q => q.2.cells.toList).toArray e)) := by
  obtain ⟨i, z, hi, hzr, hzs, hpos, hsz, _⟩ := zeroT_spec hz
  have hu := elT_spec he
  have hs : (sizeOf e).run P w = .ok (szOf P e) w := by simp [sizeOf, typeInfo, hi, szOf]
  have hz' : (zeroValue e).run P w = .ok z w := by simp [zeroValue, typeInfo, hi, hzr]
  have hlen : qs.toList.length = n := by have := congrArg List.length h1; simpa using this
  have key : ∀ zs : Array Value, zs.size = n * szOf P e → Instr.fill (fun i => some (i * szOf P e, szOf P e)) zs qs.toList = some (qs.toList.flatMap fun q => q.2.cells.toList).toArray := fun zs hzs' => by
    have := fill_seq (n := szOf P e) qs.toList 0 [] zs.toList (by rw [h1, hlen, List.range_eq_range']) (by simp) (by rw [hlen]; simpa using hzs') h2
    simpa using this
  unfold Instr.buildSlice
  rw [Sem.run_bind, run_underlying hu, Result.andThen_ok]
  simp only
  rw [Sem.run_bind, hs, Result.andThen_ok, if_neg (by omega)]
  by_cases h0 : n * szOf P e = 0
  · rw [if_pos h0]
    simp only [Sem.run_bind, Sem.run_pure, Result.andThen_ok]
    rw [key _ (by simp)]
    simp [newRow]
  · rw [if_neg h0]
    simp only [Sem.run_bind, hz', Sem.run_pure, Result.andThen_ok]
    rw [key _ (by simp)]
    simp [newRow]
theorem parts_rep (hf : RepF P w η (Fix P S η) f a) : ∀ (l : List (Nat × Operand)), (∀ p ∈ l, opnOk a.tmps.size p.2 = true) → RepL P w η (Fix P S η) (l.map fun p => ev f p.2) (l.map fun p => a.eval p.2)
  | [], _ => by simp [RepL]
  | p :: l, h => by
    simp only [List.map_cons, RepL]
    exact ⟨_, _, rfl, hf.ev (h p (by simp)), parts_rep hf l fun q hq => h q (by simp [hq])⟩
theorem RepL.flat_ {X : Nat → Nat → Prop} : ∀ {es : List D} {vs : List Value}, RepL P w η X es vs → (∀ d ∈ es, d.okCell = true) → RepL P w η X (flat es) (vs.flatMap fun v => v.cells.toList) ∧ ∀ x ∈ vs.flatMap (fun v => v.cells.toList), x.oneCell' = true
  | [], vs, h, _ => by simp only [RepL] at h; subst h; exact ⟨by simp [flat, RepL], fun x hx => by simp at hx⟩
  | d :: es, vs, h, hk => by
    simp only [RepL] at h
    obtain ⟨x, xs, rfl, h2, h3⟩ := h
    obtain ⟨k1, k2⟩ := RepL.flat_ h3 fun d' hd => hk d' (by simp [hd])
    obtain ⟨g1, g2, _⟩ := h2.cells_ (hk d (by simp))
    simp only [flat, List.flatMap_cons] at *
    exact ⟨g1.append k1, fun y hy => (List.mem_append.1 hy).elim (g2 y) (k2 y)⟩
/-- A new block of cells that stay. -/
theorem rep_new_row (hM : Mem P base S η w) {es : List D} {vs : List Value} {e : TypeId} (hr : RepL P w η (Fix P S η) es vs) (hk : ∀ d ∈ es, d.okCell = true ∧ d.width = szOf P e) (hpos : 0 < szOf P e) (hl : es.length ≤ 140737488355328) :
    Rep P (w.alloc (.cells (vs.flatMap fun v => v.cells.toList).toArray e)) η (Fix P S η) (.sl .full es) (.slice (some ⟨w.heap.size, 0, none⟩) es.length es.length) := by
  have G := goes_new hM (.cells (vs.flatMap fun v => v.cells.toList).toArray e)
  obtain ⟨k1, k2⟩ := RepL.flat_ hr fun d hd => (hk d hd).1
  simp only [Rep]
  refine ⟨_, es.length, rfl, Nat.le_refl _, hl, rfl, fun _ => ⟨w.heap.size, 0, szOf P e, rfl, hpos, ?_⟩⟩
  refine RepE.of_flat (fun d hd => (hk d hd).2) (RepC.mk (G.repL k1) (fun j u hj => ?_) (fun j _ k o hk' _ => ?_) k2)
  · rw [Nat.zero_add, cell_of_row _ w.heap.size j _ e (0, 0) (heap_alloc_new w _)]
    simpa using hj
  · have := (hM.in_ k _ hk').2
    omega
theorem append_op (hM : Mem P base S η w) (hf : RepF P w η (Fix P S η) f a) {args : Array Operand} (hop : ∀ x ∈ args.toList, opnOk a.tmps.size x = true) {ts : Array TypeId} {ty : TypeId} {cs : Array Bool} {own own2 : Own} {es es2 : List D} {t tx e : TypeId}
    (h1 : args.toList.map (ev f) = [.sl own es, .sl own2 es2]) (h2 : ts.toList = [t, tx]) (ht : elT P t = some e) (htx : (elT P tx).isSome = true) (hz : zeroT P e = true) (hw1 : ∀ d ∈ es, d.width = szOf P e) (hw2 : ∀ d ∈ es2, d.width = szOf P e)
    (hown : own = .full ∨ ∃ g, own = .row g ∧ S.ob g = some (.row e es.length)) (hlen : es.length + es2.length ≤ 140737488355328) (hby : (es.length + es2.length) * bytesOf P e ≤ 140737488355328) :
    ∃ v' η' w', (builtin .append ts ty cs (args.map a.eval)).run P w = .ok (.value v') w' ∧ Goes P base S η w (S.grow own e (es.length + es2.length)) η' w' ∧ Rep P w' η' (Fix P (S.grow own e (es.length + es2.length)) η') (.sl (.row S.next) (es ++ es2)) v' := by
  have hr := repL_map hf hop
  rw [h1] at hr
  simp only [RepL] at hr
  obtain ⟨v, vs, e1, r1, x, xs, e2, r2, e3⟩ := hr
  subst e3
  subst e2
  have hargs : args.map a.eval = #[v, x] := by apply Array.ext'; simpa using e1
  have hts : ts = #[t, tx] := by apply Array.ext'; simpa using h2
  obtain ⟨v', η', w', k1, k2, k3⟩ := append_step (ty := ty) hM r1 r2 ht htx hz hw1 hw2 hown hlen hby
  refine ⟨v', η', w', ?_, k2, k3⟩
  rw [hargs, hts]
  unfold builtin
  simp only
  rw [Sem.run_bind, k1]
  rfl
theorem Rep.own_no {X : Nat → Nat → Prop} {o : Own} {es : List D} {v : Value} (h : Rep P w η X (.sl o es) v) : Rep P w η X (.sl .no es) v := by
  simp only [Rep] at *
  obtain ⟨A, c, h1, h2, h3, _, h5⟩ := h
  exact ⟨A, c, h1, h2, h3, trivial, h5⟩
theorem Mem.lt (hM : Mem P base S η w) {k : Nat} (h : (η k).isSome = true) : k < S.next := by
  rcases Nat.lt_or_ge k S.next with h' | h'
  · exact h'
  · rw [hM.dead k h'] at h; cases h
theorem dnew_sound (hM : Mem P base S η w) (hf : RepF P w η (Fix P S η) f a) {o : Oper} (hop0 : opsOk a.tmps.size o.op = true) {c : Prop} {d : D} (h : dnew P f S o.op = some (c, d)) (hc : c) :
    ∃ v w' η', (execOp a.eval o).run P w = .ok (.value v) w' ∧ Goes P base S η w S η' w' ∧ Rep P w' η' (Fix P S η') d v := by
  have hop := opsOk_spec hop0
  clear hop0
  obtain ⟨dst, op, ty, pos, after, guard⟩ := o
  unfold dnew at h
  simp only at h hop
  split at h
  · -- buildSlice
    rename_i t n ps
    split at h
    · rename_i e he
      injection h with h; injection h with hp hd; subst hp hd
      obtain ⟨k1, k2, k3, k4⟩ := hc
      obtain ⟨i, z, hi, hzr, hzs, hpos, hsz, _⟩ := zeroT_spec k1
      have hr := parts_rep hf ps.toList fun p hp => hop p.2 (by simp only [Op.operands]; simp; exact ⟨p.1, by simpa using hp⟩)
      have hlen : ps.toList.length = n := by have := congrArg List.length k2; simpa using this
      have hl : (ps.toList.map fun p => ev f p.2).length = n := by rw [List.length_map, hlen]
      have hnb : n ≤ 140737488355328 := by
        have h1 : n * 1 ≤ n * szOf P e := Nat.mul_le_mul_left _ (by omega)
        omega
      have hg := rep_new_row hM hr k4 (by omega) (by rw [hl]; exact hnb)
      have hfl : ((ps.map fun (i, x) => (i, a.eval x)).toList.flatMap fun q => q.2.cells.toList) = (ps.toList.map fun p => a.eval p.2).flatMap fun v => v.cells.toList := by
        simp [List.flatMap_map]
      have hrun := run_buildSlice_at (w := w) he k1 n (ps.map fun (i, x) => (i, a.eval x)) (by simpa [Function.comp_def] using k2) (fun q hq => by
        simp only [Array.toList_map, List.mem_map] at hq
        obtain ⟨p, hp, rfl⟩ := hq
        have hm : ev f p.2 ∈ ps.toList.map fun p => ev f p.2 := List.mem_map.2 ⟨p, hp, rfl⟩
        have := (hf.ev (hop p.2 (by simp only [Op.operands]; simp; exact ⟨p.1, by simpa using hp⟩))).cells_ (k4 _ hm).1
        rw [this.2.2]
        exact (k4 _ hm).2) k3
      rw [hfl] at hrun
      refine ⟨_, _, η, ?_, goes_new hM _, by rw [hl] at hg; exact hg⟩
      unfold execOp
      simp only
      rw [Sem.run_bind, hrun]
      rfl
    · cases h
  · -- build
    rename_i t ps
    split at h
    · rename_i pl hpl
      injection h with h; injection h with hp hd; subst hp hd
      obtain ⟨k1, k2⟩ := hc
      obtain ⟨z, i, hi, hz, hzd, hz1, hzs⟩ := zeroOk_spec k1
      have hr := parts_rep hf ps.toList fun p hp => hop p.2 (by simp only [Op.operands]; simp; exact ⟨p.1, by simpa using hp⟩)
      rw [hzd] at k2 ⊢
      obtain ⟨us, g1, g2, g3⟩ := fill_sound (P := P) (w := w) (η := η) (X := Fix P S η) pl (ps.toList.map fun p => (p.1, ev f p.2)) (ps.toList.map fun p => (p.1, a.eval p.2)) (z.cells.toList.map ofV) z.cells.toList (by simp) (by rw [List.map_map, List.map_map]; exact hr) (zeroD_rep _) hz1 k2
      have hq : (ps.map fun (i, x) => (i, a.eval x)).toList = ps.toList.map fun p => (p.1, a.eval p.2) := by simp
      have hrun := run_build_at (w := w) hpl hi hz (ps.map fun (i, x) => (i, a.eval x)) (us := us) (by rw [hq]; simpa using g1)
      refine ⟨.agg us.toArray, w, η, ?_, Goes.refl hM, by simp only [Rep]; exact ⟨us, rfl, g2, g3⟩⟩
      unfold execOp
      simp only
      rw [Sem.run_bind, hrun]
      rfl
    · cases h
  · -- append
    rename_i args ts
    split at h
    · rename_i es own2 es2 t tx h1 h2
      split at h
      · rename_i e he
        injection h with h; injection h with hp hd; subst hp hd
        obtain ⟨k1, k2, k3, k4, k5, k6⟩ := hc
        obtain ⟨v', η', w', g1, g2, g3⟩ := append_op (ty := ty) (cs := args.map isConstB) hM hf (fun x hx => hop x (by simp only [Op.operands, Call.operands, Array.mem_append]; exact .inr (by simpa using hx))) h1 h2 he k1 k2 k3 k4 (.inl rfl) k5 k6
        have G2 := g2.trans (goes_drop g2.mem S.next)
        have hb := goes_back hM G2 (Nat.le_succ _) (fun k o ho => by
          have : k ≠ S.next := fun e => by subst e; rw [hM.fresh _ (Nat.le_refl _)] at ho; cases ho
          simp [St.drop, St.grow, St.leave, St.add, this, ho])
        have ha := repL_map hf (l := args.toList) (fun x hx => hop x (by simp only [Op.operands, Call.operands, Array.mem_append]; exact .inr (by simpa using hx)))
        have hn := allL_mono (fun k hk => hM.lt hk) (RepL.names ha)
        rw [h1] at hn
        simp only [allL, D.all] at hn
        refine ⟨v', w', _, ?_, hb.1, hb.2 _ _ ?_ ((goes_drop g2.mem S.next).rep g3).own_no⟩
        · rw [run_builtin_op]; exact g1
        · simp only [D.all]
          exact ⟨trivial, allL_iff.2 fun d hd => (List.mem_append.1 hd).elim (allL_iff.1 hn.1.2 d) (allL_iff.1 hn.2.1.2 d)⟩
      · cases h
    · cases h
  · cases h
end
end Go.Proofs.Ytpnjkebjdclkfaa
