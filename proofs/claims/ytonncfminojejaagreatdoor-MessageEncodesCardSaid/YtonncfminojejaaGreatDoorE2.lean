/- Texts of a proof, part 2. Conditions: none. -/
import Derived.Test.YtonncfminojejaaGreatDoorE1
import Derived.Lib.SlBytesConst
import Derived.Deep.Quiet
set_option linter.unusedVariables false
set_option linter.unusedSimpArgs false
namespace Go.Proofs.YtonncfminojejaaGreatDoor
open Go.RowKit

def D.okCell : D → Bool
  | .tup _ => false
  | .v (.tuple _) => false
  | .v (.agg _) => false
  | _ => true
def splice (cs : List D) (off : Nat) (ds : List D) : List D := cs.take off ++ ds ++ cs.drop (off + ds.length)
def fillD (pl : Nat → Option (Nat × Nat)) : List D → List (Nat × D) → Prop × List D
  | cs, [] => (True, cs)
  | cs, (i, d) :: r => match pl i with
    | some (off, n) => (d.okCell = true ∧ d.width = n ∧ off + n ≤ cs.length ∧ (fillD pl (splice cs off d.cells) r).1, (fillD pl (splice cs off d.cells) r).2)
    | none => (False, cs)
def zeroD (P : Program) (t : TypeId) : List D := match (P.info? t).bind (·.zero) with
  | some z => z.cells.toList.map ofV
  | none => []
def zeroOk (P : Program) (t : TypeId) : Bool := (P.underlying t).isSome && match P.info? t with
  | some i => match i.zero with
    | some z => z.cells.all (·.oneCell') && z.cells.size == i.size
    | none => false
  | none => false
def placeT (P : Program) (t : TypeId) : Option (Nat → Option (Nat × Nat)) := match P.underlying t with
  | some (.struct fs) => bif fs.all (fun f => (P.info? f.type).isSome) then some fun i => (fs[i]?).map fun f => (f.offset, szOf P f.type) else none
  | some (.array _ e) => bif (P.info? e).isSome then some fun i => some (i * szOf P e, szOf P e) else none
  | _ => none

def appWin (P : Program) (S : St) (e tx : TypeId) (own : Own) (es es2 : List D) (K : D → St → Prop) : Prop :=
  own = .full ∧ es = [] ∧ 0 < es2.length ∧ (elT P tx).isSome = true ∧ zeroT P e = true ∧ zeroOk P e = true ∧ (∀ d ∈ es2, d.width = szOf P e) ∧ es2.length ≤ 140737488355328 ∧ es2.length * bytesOf P e ≤ 140737488355328 ∧ ∀ (c : Nat) (zs : List D), es2.length ≤ c → (flat es2 ++ zs).length = c * szOf P e → K (.win S.next 0 es2.length c) (S.add (.box e (flat es2 ++ zs)))
def DCalls (P : Program) (g : FuncId) (args : List D) (S : St) (K : D → St → Prop) : Prop :=
  ∀ base η w vs, Mem P base S η w → RepL P w η (Fix P S η) args vs →
    ((callFunc g vs.toArray).run P w = .ok (.enter g vs.toArray) w ∧
      Calls P g vs.toArray w fun e w' => ∃ d S' η' v, K d S' ∧ e = .returned v ∧ Rep P w' η' (Fix P S' η') d v ∧ Goes P base S η w S' η' w') ∨
    ∃ d S' η' v w', (callFunc g vs.toArray).run P w = .ok (.value v) w' ∧ K d S' ∧ Rep P w' η' (Fix P S' η') d v ∧ Goes P base S η w S' η' w'
def DRun (P : Program) (run : List Value → Sem Value) (args : List D) (S : St) (K : D → St → Prop) : Prop :=
  ∀ base η w vs, Mem P base S η w → RepL P w η (Fix P S η) args vs → ∃ d S' η' v w', (run vs).run P w = .ok v w' ∧ K d S' ∧ Rep P w' η' (Fix P S' η') d v ∧ Goes P base S η w S' η' w'
theorem DRun.mono {P : Program} {run : List Value → Sem Value} {args : List D} {S : St} {K K' : D → St → Prop} (h : DRun P run args S K) (hk : ∀ d S', K d S' → K' d S') : DRun P run args S K' := fun base η w vs hM hr => by
  obtain ⟨d, S', η', v, w', h1, h2, h3⟩ := h base η w vs hM hr
  exact ⟨d, S', η', v, w', h1, hk _ _ h2, h3⟩
def DMeth (P : Program) (t : TypeId) (d : D) (name : String) (g : FuncId) (d' : D) : Prop := ∀ w η X v, Rep P w η X d v → ∃ v', (method (P.types.size + Made.depth) t v name).run P w = .ok (g, v') w ∧ Rep P w η X d' v'
def DAt (P : Program) (g : FuncId) (args : List D) (S : St) (d : D) : Prop := DCalls P g args S fun d' S' => d' = d ∧ S' = S
def DPure (P : Program) (g : FuncId) (args : List D) (d : D) : Prop := ∀ S, DAt P g args S d
theorem DCalls.mono {P : Program} {g : FuncId} {args : List D} {S : St} {K K' : D → St → Prop} (h : DCalls P g args S K) (hk : ∀ d S', K d S' → K' d S') : DCalls P g args S K' := fun base η w vs hM hr => by
  rcases h base η w vs hM hr with ⟨h1, h2⟩ | ⟨d, S', η', v, w', h1, h2, h3⟩
  · exact .inl ⟨h1, h2.mono fun _ _ ⟨d, S', η', v, h1, h2⟩ => ⟨d, S', η', v, hk d S' h1, h2⟩⟩
  · exact .inr ⟨d, S', η', v, w', h1, hk _ _ h2, h3⟩
def DSt (P : Program) (g : FuncId) (args : List D) (S : St) (d : D) : Prop := ∀ T : St, S.next ≤ T.next → (∀ j o, S.ob j = some o → T.ob j = some o) → DAt P g args T d
theorem DPure.st {P : Program} {g : FuncId} {args : List D} {S : St} {d : D} (h : DPure P g args d) : DSt P g args S d := fun T _ _ => h T
theorem DCalls.of_pure {P : Program} {g : FuncId} {args : List D} {S : St} {K : D → St → Prop} {d : D} (h : DPure P g args d) (hk : K d S) : DCalls P g args S K := (h S).mono fun _ _ ⟨h1, h2⟩ => by rw [h1, h2]; exact hk

def dnew (P : Program) (f : Fm) (S : St) : Op → Option (Prop × D)
  | .buildSlice t n ps => match elT P t with
    | some e => some (zeroT P e = true ∧ ps.toList.map (·.1) = List.range n ∧ n * szOf P e ≤ 16777216 ∧ (∀ d ∈ ps.toList.map (fun p => ev f p.2), d.okCell = true ∧ d.width = szOf P e), .sl .full (ps.toList.map fun p => ev f p.2))
    | none => none
  | .build t ps => match placeT P t with
    | some pl => some (zeroOk P t = true ∧ (fillD pl (zeroD P t) (ps.toList.map fun p => (p.1, ev f p.2))).1, .agg (fillD pl (zeroD P t) (ps.toList.map fun p => (p.1, ev f p.2))).2)
    | none => none
  | .call ⟨.builtin .append, args, ts⟩ => match args.toList.map (ev f), ts.toList with
    | [.sl .full es, .sl _ es2], [t, tx] => match elT P t with
      | some e => some ((elT P tx).isSome = true ∧ zeroT P e = true ∧ (∀ d ∈ es, d.width = szOf P e) ∧ (∀ d ∈ es2, d.width = szOf P e) ∧ es.length + es2.length ≤ 140737488355328 ∧ (es.length + es2.length) * bytesOf P e ≤ 140737488355328, .sl .no (es ++ es2))
      | none => none
    | _, _ => none
  | .convert s d x => match ev f x with
    | .v (.string str) => match elT P d with
      | some e => some (u8T P e = true ∧ strT P s = true ∧ str.data.toList.length ≤ 140737488355328, .sl .no (str.data.toList.map bD))
      | none => none
    | _ => none
  | _ => none
def onVal (o : Option (Prop × D)) (K : D → Prop) : Prop := match o with
  | some (c, d) => c ∧ K d
  | none => False
def onVal2 (o : Option (Prop × D)) (o' : Option (Prop × D)) (K : D → Prop) : Prop := match o with
  | some (c, d) => c ∧ K d
  | none => onVal o' K
def orD (a b : Option (Prop × D)) : Option (Prop × D) := match a with
  | some p => some p
  | none => b
theorem orD_some (p : Prop × D) (b : Option (Prop × D)) : orD (some p) b = some p := Eq.trans (Eq.refl _) (Eq.refl _)
theorem orD_none (b : Option (Prop × D)) : orD none b = b := Eq.trans (Eq.refl _) (Eq.refl _)
def dop (P : Program) (f : Fm) (S : St) (ty : TypeId) (op : Op) (K : D → St → Prop) : Prop := match op with
  | .alloc t => zeroOk P t = true ∧ K (.loc S.next 0) (S.add (.box t (zeroD P t)))
  | .box t x => (ev f x).okCell = true ∧ K (.loc S.next 0) (S.add (.box t (ev f x).cells))
  | .store t x y => match ev f x with
    | .loc k off => match S.ob k with
      | some (.box t' cs) => (ev f y).okCell = true ∧ (P.info? t).isSome = true ∧ (ev f y).width = szOf P t ∧ off + szOf P t ≤ cs.length ∧ K undefD (S.set k (.box t' (splice cs off (ev f y).cells)))
      | _ => False
    | _ => False
  | .call ⟨.value x, args, _⟩ => match ev f x with
    | .fn (.func g) fs cs => DCalls P g (fs ++ args.toList.map (ev f) ++ cs) S K
    | _ => False
  | .call ⟨.builtin .append, args, ts⟩ => match args.toList.map (ev f), ts.toList with
    | [.sl own es, .sl _ es2], [t, tx] => match elT P t with
      | some e => ((elT P tx).isSome = true ∧ zeroT P e = true ∧ (∀ d ∈ es, d.width = szOf P e) ∧ (∀ d ∈ es2, d.width = szOf P e) ∧ (match own with | .full => True | .row g => S.ob g = some (.row e es.length) | .no => False) ∧ es.length + es2.length ≤ 140737488355328 ∧ (es.length + es2.length) * bytesOf P e ≤ 140737488355328 ∧ K (.sl (.row S.next) (es ++ es2)) (S.grow own e (es.length + es2.length))) ∨ appWin P S e tx own es es2 K ∨ DRun P (fun vs => Builtin.append_ ts ty vs.toArray) (args.toList.map (ev f)) S K
      | none => False
    | .win k off n c :: r, _ => DRun P (fun vs => Builtin.append_ ts ty vs.toArray) (.win k off n c :: r) S K
    | [.sl own es, .win k off n c], _ => DRun P (fun vs => Builtin.append_ ts ty vs.toArray) [.sl own es, .win k off n c] S K
    | [.sl own es, .v u], _ => DRun P (fun vs => Builtin.append_ ts ty vs.toArray) [.sl own es, .v u] S K
    | _, _ => False
  | .call ⟨.builtin .copy, args, ts⟩ => DRun P (fun vs => Builtin.copy_ ts ty vs.toArray) (args.toList.map (ev f)) S K
  | .call ⟨.builtin .clear, args, ts⟩ => DRun P (fun vs => Builtin.clear_ ts ty vs.toArray) (args.toList.map (ev f)) S K
  | .call ⟨.builtin .delete, args, ts⟩ => DRun P (fun vs => Builtin.delete_ ts ty vs.toArray) (args.toList.map (ev f)) S K
  | .call ⟨.invoke r m, args, _⟩ => match ev f r with
    | .ifc t d => ∃ g d', DMeth P t d m g d' ∧ DCalls P g (d' :: args.toList.map (ev f)) S K
    | _ => False
  | .makeSlice t x y => DRun P (fun vs => Instr.makeSlice t (vs.getD 0 undef) (vs.getD 1 undef)) [ev f x, ev f y] S K
  | .typeAssert x xt t ok => DRun P (fun vs => Instr.typeAssert (vs.getD 0 undef) xt t ok) [ev f x] S K
  | .lookup t x i ok => DRun P (fun vs => Instr.lookup t (vs.getD 0 undef) (vs.getD 1 undef) ok) [ev f x, ev f i] S K
  | .makeMap t r => DRun P (fun vs => Instr.makeMap t vs.head?) (r.toList.map (ev f)) S K
  | .mapUpdate t m k x => DRun P (fun vs => do Instr.mapUpdate t (vs.getD 0 undef) (vs.getD 1 undef) (vs.getD 2 undef); pure undef) [ev f m, ev f k, ev f x] S fun d S' => d = undefD ∧ K d S'
  | .insert t m k x => DRun P (fun vs => do Instr.mapUpdate t (vs.getD 0 undef) (vs.getD 1 undef) (vs.getD 2 undef); pure undef) [ev f m, ev f k, ev f x] S fun d S' => d = undefD ∧ K d S'
  | .buildSlice t n ps => onVal (dnew P f S (.buildSlice t n ps)) fun d => K d S
  | .build t ps => onVal (dnew P f S (.build t ps)) fun d => K d S
  | .convert s t x => onVal (orD (dnew P f S (.convert s t x)) (dval P f S ty (.convert s t x))) fun d => K d S
  | op => onVal (dval P f S ty op) fun d => K d S
def dquiet (P : Program) (f : Fm) (S : St) (ty : TypeId) (op : Op) (K : D → Prop) : Prop := match op with
  | .call ⟨.value x, args, _⟩ => match ev f x with
    | .fn (.func g) fs cs => ∃ d, DSt P g (fs ++ args.toList.map (ev f) ++ cs) S d ∧ K d
    | _ => False
  | op => onVal2 (dnew P f S op) (dval P f S ty op) K
def dwanted (ops : Array Oper) (f : Fm) (o : Oper) (yes no : Prop) : Prop := match o.guard with
  | none => yes
  | some (j, want) => match (ops[j]?).bind (·.dst) with
    | some t => match f t with
      | .v (.bool b) => (b = want → yes) ∧ (b = !want → no)
      | .tup [] => no
      | _ => False
    | none => False
def dlit (P : Program) (ops : Array Oper) (f : Fm) (S : St) (o : Oper) (r : List Oper) (R : Fm → St → Prop) : Prop := match o.op, r with
  | .buildSlice t n ps, o2 :: _ => ∃ (e : TypeId) (l : List UInt8) (k : Nat), elT P t = some e ∧ u8T P e = true ∧ zeroT P e = true ∧ szOf P e = 1 ∧ n ≤ 16777216 ∧ ps.toList.map (·.1) = List.range n ∧ (ps.toList.map fun p => ev f p.2) = l.map bD ∧ o.dst = some k ∧ o2.op = .convert t t (.tmp k) ∧
      dwanted ops (put f o.dst (.sl .no (l.map bD))) o2 (R (put (put f o.dst (.sl .no (l.map bD))) o2.dst (.sl .no (l.map bD))) S) False
  | _, _ => False
def dbs (op : Op) (r : List Oper) (A B : Prop) : Prop := match op, r with
  | .buildSlice _ _ _, o2 :: _ => match o2.op with
    | .convert s d _ => bif Nat.beq s d then B else A
    | _ => A
  | _, _ => A
def dops2 (P : Program) (ops : Array Oper) (Q : Fm → St → Prop) : List Oper → (Fm → St → Prop) × (Fm → St → Prop)
  | [] => (Q, Q)
  | o :: r => (fun f S => dwanted ops f o (dbs o.op r (dop P f S o.type o.op fun d S' => (dops2 P ops Q r).1 (put f o.dst d) S') (dlit P ops f S o r (dops2 P ops Q r).2)) ((dops2 P ops Q r).1 (put f o.dst undefD) S), (dops2 P ops Q r).1)
def dops (P : Program) (ops : Array Oper) (Q : Fm → St → Prop) (l : List Oper) : Fm → St → Prop := (dops2 P ops Q l).1
theorem dsnd_eq (P : Program) (ops : Array Oper) (Q : Fm → St → Prop) (l : List Oper) : (dops2 P ops Q l).2 = dops P ops Q l.tail := by cases l <;> rfl
theorem dops_cons (P : Program) (ops : Array Oper) (Q : Fm → St → Prop) (o : Oper) (r : List Oper) (f : Fm) (S : St) : dops P ops Q (o :: r) f S = dwanted ops f o (dbs o.op r (dop P f S o.type o.op fun d S' => dops P ops Q r (put f o.dst d) S') (dlit P ops f S o r (dops P ops Q r.tail))) (dops P ops Q r (put f o.dst undefD) S) := by
  rw [← dsnd_eq]; rfl
theorem dbs_cases (op : Op) (r : List Oper) : (∀ A B, dbs op r A B = A) ∨ (∀ A B, dbs op r A B = B) := by
  cases op with
  | buildSlice t n ps =>
    cases r with
    | nil => exact .inl fun _ _ => rfl
    | cons o2 r2 =>
      obtain ⟨dst, op2, ty, pos, after, guard⟩ := o2
      cases op2 with
      | convert s d x =>
        cases hb : Nat.beq s d with
        | false => exact .inl fun A B => by simp only [dbs, hb, cond_false]
        | true => exact .inr fun A B => by simp only [dbs, hb, cond_true]
      | _ => exact .inl fun _ _ => rfl
  | _ => exact .inl fun _ _ => rfl
theorem dbs_or {op : Op} {r : List Oper} {A B : Prop} (h : dbs op r A B) : A ∨ B := by
  rcases dbs_cases op r with e | e
  · exact .inl (by rwa [e] at h)
  · exact .inr (by rwa [e] at h)
theorem dbs_mono {op : Op} {r : List Oper} {A B A' B' : Prop} (h1 : A → A') (h2 : B → B') (h : dbs op r A B) : dbs op r A' B' := by
  rcases dbs_cases op r with e | e
  · rw [e] at *; exact h1 h
  · rw [e] at *; exact h2 h
def after (S : St) : Option Ob → St
  | none => S
  | some b => S.add b
def hop (P : Program) (f : Fm) (S : St) (u : Option Ob) (ty : TypeId) (op : Op) (K : D → Option Ob → Prop) : Prop := match op with
  | .alloc t => u = none ∧ zeroOk P t = true ∧ K (.loc S.next 0) (some (.box t (zeroD P t)))
  | .box t x => u = none ∧ (ev f x).okCell = true ∧ K (.loc S.next 0) (some (.box t (ev f x).cells))
  | op => dquiet P f S ty op fun d => K d u
def dhead (P : Program) (ops : Array Oper) (S : St) (Q : Fm → St → Prop) : List Oper → Fm → Option Ob → Prop
  | [], f, u => Q f (after S u)
  | o :: r, f, u => match o.guard with
    | none => hop P f S u o.type o.op fun d u' => dhead P ops S Q r (put f o.dst d) u'
    | some _ => dwanted ops f o (dquiet P f S o.type o.op fun d => dhead P ops S Q r (put f o.dst d) u) (dhead P ops S Q r (put f o.dst undefD) u)

section
variable {P : Program} {base : Nat} {S : St} {η : Names} {w : World} {f : Fm} {a : Act}
theorem foldl_set (off : Nat) : ∀ (vs : List Value) (j : Nat) (cells : Array Value), off + j + vs.length ≤ cells.size →
    (vs.zipIdx j).foldl (fun (cs : Array Value) (p : Value × Nat) => cs.setIfInBounds (off + p.2) p.1) cells = (cells.toList.take (off + j) ++ vs ++ cells.toList.drop (off + j + vs.length)).toArray
  | [], j, cells, _ => by simp
  | v :: vs, j, cells, h => by
    simp only [List.length_cons] at h
    simp only [List.zipIdx_cons, List.foldl_cons]
    rw [foldl_set off vs (j + 1) _ (by simp; omega)]
    apply Array.ext'
    have hcl : cells.toList.length = cells.size := Array.length_toList
    apply List.ext_getElem?
    intro i
    simp only [Array.toList_setIfInBounds, List.append_assoc, List.getElem?_append, List.getElem?_take, List.getElem?_drop, List.length_take, List.length_set, List.getElem?_set, hcl, List.length_cons, List.getElem?_cons]
    by_cases h1 : i < off + j
    · have e1 : i < min (off + (j + 1)) cells.size := by omega
      have e2 : i < min (off + j) cells.size := by omega
      have e3 : ¬ (off + j = i) := by omega
      simp [e1, e2, e3, h1, show i < off + (j + 1) by omega]
    · by_cases h2 : i = off + j
      · subst h2
        have e1 : off + j < min (off + (j + 1)) cells.size := by omega
        have e2 : ¬ (off + j < min (off + j) cells.size) := by omega
        have e4 : off + j - min (off + j) cells.size = 0 := by omega
        simp [e1, e2, e4, show off + j < off + (j + 1) by omega, show off + j < cells.size by omega]
      · have e1 : ¬ (i < min (off + (j + 1)) cells.size) := by omega
        have e2 : ¬ (i < min (off + j) cells.size) := by omega
        have e3 : i - min (off + j) cells.size = (i - min (off + (j + 1)) cells.size) + 1 := by omega
        simp only [e1, e2, if_false]
        by_cases h3 : i - min (off + (j + 1)) cells.size < vs.length
        · have e5 : i - min (off + j) cells.size < vs.length + 1 := by omega
          have e6 : i - min (off + j) cells.size ≠ 0 := by omega
          have e7 : i - min (off + j) cells.size - 1 = i - min (off + (j + 1)) cells.size := by omega
          simp [h3, e5, e6, e7]
        · have e5 : ¬ (i - min (off + j) cells.size < vs.length + 1) := by omega
          have e8 : off + (j + 1) + vs.length + (i - min (off + (j + 1)) cells.size - vs.length) = off + j + (vs.length + 1) + (i - min (off + j) cells.size - (vs.length + 1)) := by omega
          have e9 : ¬ (off + j = off + (j + 1) + vs.length + (i - min (off + (j + 1)) cells.size - vs.length)) := by omega
          simp only [h3, e5, if_false]
          rw [if_neg e9, e8]
theorem splice_rep {X : Nat → Nat → Prop} {cs ds : List D} {vs us : List Value} {off : Nat} (h : RepL P w η X cs vs) (k : RepL P w η X ds us) : RepL P w η X (splice cs off ds) (vs.take off ++ us ++ vs.drop (off + us.length)) := by
  unfold splice
  rw [← k.length]
  exact ((h.take off).append k).append (h.drop _)
theorem Rep.cells_ {X : Nat → Nat → Prop} {d : D} {v : Value} (h : Rep P w η X d v) (hk : d.okCell = true) : RepL P w η X d.cells v.cells.toList ∧ (∀ x ∈ v.cells.toList, x.oneCell' = true) ∧ v.cells.size = d.width := by
  have one : ∀ (d : D) (v : Value), d.cells = [d] → v.cells = #[v] → v.oneCell' = true → Rep P w η X d v → RepL P w η X d.cells v.cells.toList ∧ (∀ x ∈ v.cells.toList, x.oneCell' = true) ∧ v.cells.size = d.width := fun d v h1 h2 h3 h4 => by
    rw [D.width, h1, h2]
    refine ⟨?_, fun x hx => by simp at hx; subst hx; exact h3, rfl⟩
    show RepL P w η X [d] [v]
    simp only [RepL]
    exact ⟨v, [], rfl, h4, rfl⟩
  cases d with
  | v x =>
    have := h
    simp only [Rep] at this
    subst this
    cases v <;> first | exact one _ _ rfl rfl rfl h | (simp [D.okCell] at hk)
  | agg cs =>
    simp only [Rep] at h
    obtain ⟨vs, rfl, h2, h3⟩ := h
    exact ⟨h2, h3, h2.length⟩
  | tup cs => simp [D.okCell] at hk
  | fn g fs cs =>
    have := h
    simp only [Rep] at this
    obtain ⟨us, vs, rfl, _⟩ := this
    exact one _ _ rfl rfl rfl h
  | ifc t d =>
    have := h
    simp only [Rep] at this
    obtain ⟨x, rfl, _⟩ := this
    exact one _ _ rfl rfl rfl h
  | win k off n c =>
    obtain ⟨A, rfl, _⟩ := Rep.win_slice h
    exact one _ _ rfl rfl rfl h
  | loc k off =>
    have := h
    simp only [Rep] at this
    obtain ⟨b, _, rfl⟩ := this
    exact one _ _ rfl rfl rfl h
  | rd cs off =>
    have := h
    simp only [Rep] at this
    obtain ⟨b, o, rfl, _⟩ := this
    exact one _ _ rfl rfl rfl h
  | sl own es =>
    have := h
    simp only [Rep] at this
    obtain ⟨A, c, rfl, _⟩ := this
    exact one _ _ rfl rfl rfl h
theorem fill_sound {X : Nat → Nat → Prop} (pl : Nat → Option (Nat × Nat)) : ∀ (ps : List (Nat × D)) (qs : List (Nat × Value)) (cs : List D) (vs : List Value), ps.map (·.1) = qs.map (·.1) → RepL P w η X (ps.map (·.2)) (qs.map (·.2)) → RepL P w η X cs vs → (∀ x ∈ vs, x.oneCell' = true) → (fillD pl cs ps).1 →
    ∃ us : List Value, Instr.fill pl vs.toArray qs = some us.toArray ∧ RepL P w η X (fillD pl cs ps).2 us ∧ (∀ x ∈ us, x.oneCell' = true)
  | [], qs, cs, vs, h1, h2, h3, h4, _ => by
    have : qs = [] := by cases qs <;> simp_all
    subst this
    exact ⟨vs, rfl, h3, h4⟩
  | (i, d) :: ps, qs, cs, vs, h1, h2, h3, h4, h5 => by
    obtain ⟨⟨j, v⟩, qs, rfl⟩ : ∃ q qs', qs = q :: qs' := by
      cases qs with
      | nil => simp at h1
      | cons q qs => exact ⟨q, qs, rfl⟩
    simp only [List.map_cons, List.cons.injEq] at h1 h2
    obtain ⟨rfl, h1⟩ := h1
    simp only [RepL] at h2
    obtain ⟨x, xs, hx, h6, h7⟩ := h2
    injection hx with hx1 hx2
    subst hx1 hx2
    unfold fillD at h5 ⊢
    cases hp : pl i with
    | none => rw [hp] at h5; exact absurd h5 id
    | some q =>
      obtain ⟨off, n⟩ := q
      rw [hp] at h5
      obtain ⟨k1, k2, k3, k4⟩ := h5
      obtain ⟨e1, e2, e3⟩ := h6.cells_ k1
      have hl := h3.length
      have hvl : v.cells.toList.length = v.cells.size := Array.length_toList
      have hset := foldl_set off v.cells.toList 0 vs.toArray (by simp only [List.size_toArray]; omega)
      simp only [Nat.add_zero] at hset
      obtain ⟨us, g1, g2, g3⟩ := fill_sound pl ps qs (splice cs off d.cells) (vs.take off ++ v.cells.toList ++ vs.drop (off + v.cells.toList.length)) h1 h7 (splice_rep h3 e1) (fun x hx => by
        rcases List.mem_append.1 hx with hx | hx
        · rcases List.mem_append.1 hx with hx | hx
          · exact h4 x (List.mem_of_mem_take hx)
          · exact e2 x hx
        · exact h4 x (List.mem_of_mem_drop hx)) k4
      refine ⟨us, ?_, g2, g3⟩
      unfold Instr.fill
      simp only [hp]
      rw [if_neg (by simp only [List.size_toArray, Bool.or_eq_true, decide_eq_true_eq]; omega)]
      have hz : v.cells.zipIdx.foldl (fun (cs : Array Value) (p : Value × Nat) => cs.setIfInBounds (off + p.2) p.1) vs.toArray = (vs.take off ++ v.cells.toList ++ vs.drop (off + v.cells.toList.length)).toArray := by
        rw [← Array.foldl_toList, Array.toList_zipIdx]
        exact hset
      rw [hz]
      exact g1
theorem zeroD_rep {X : Nat → Nat → Prop} : ∀ (l : List Value), RepL P w η X (l.map ofV) l
  | [] => by simp [RepL]
  | x :: l => by simp only [List.map_cons, RepL]; exact ⟨x, l, rfl, Rep.ofV x, zeroD_rep l⟩
theorem zeroOk_spec {t : TypeId} (h : zeroOk P t = true) : ∃ z i, P.info? t = some i ∧ i.zero = some z ∧ zeroD P t = z.cells.toList.map ofV ∧ (∀ x ∈ z.cells.toList, x.oneCell' = true) ∧ z.cells.size = i.size := by
  simp only [zeroOk, Bool.and_eq_true] at h
  obtain ⟨_, h⟩ := h
  split at h
  · rename_i i hi
    split at h
    · rename_i z hz
      simp only [Bool.and_eq_true, beq_iff_eq] at h
      refine ⟨z, i, hi, hz, ?_, ?_, h.2⟩
      · unfold zeroD
        rw [hi]
        simp only [Option.bind_some, hz]
      · intro x hx
        exact Array.all_eq_true_iff_forall_mem.1 h.1 x (by simpa using hx)
    · cases h
  · cases h
def Names.cut (η : Names) (n : Nat) : Names := fun k => if k < n then η k else none
theorem goes_fin (hM : Mem P base S η w) {S1 S2 : St} {η1 : Names} {w1 : World} (G : Goes P base S η w S1 η1 w1) (hn : S2.next ≤ S1.next) (hn0 : S.next ≤ S2.next)
    (hs : ∀ k o, S2.ob k = some o → S1.ob k = some o ∧ k < S2.next ∧ ∀ t cs, o = .box t cs → S.ob k = some o ∨ allL (· < S2.next) cs) :
    Goes P base S η w S2 (η1.cut S2.next) w1 ∧ ∀ d v, d.all (· < S2.next) → Rep P w1 η1 (Fix P S1 η1) d v → Rep P w1 (η1.cut S2.next) (Fix P S2 (η1.cut S2.next)) d v := by
  have cut : ∀ k b, (η1.cut S2.next) k = some b → k < S2.next ∧ η1 k = some b := fun k b hk => by
    simp only [Names.cut] at hk
    by_cases e : k < S2.next
    · rw [if_pos e] at hk; exact ⟨e, hk⟩
    · rw [if_neg e] at hk; cases hk
  have cut' : ∀ k, k < S2.next → (η1.cut S2.next) k = η1 k := fun k hk => by simp only [Names.cut]; rw [if_pos hk]
  have K : Keep (· < S2.next) w1 η1 (Fix P S1 η1) w1 (η1.cut S2.next) (Fix P S2 (η1.cut S2.next)) :=
    ⟨Nat.le_refl _, fun b i _ hx => ⟨fun k o hk hk' => hx k o (cut k _ hk).2 (hs k o hk').1, rfl⟩, fun k b hk hb => by rw [cut' k hk]; exact hb, fun _ c _ hx => ⟨c, hx, rfl⟩⟩
  have lt0 : ∀ k, (η k).isSome = true → k < S2.next := fun k hk => by
    rcases Nat.lt_or_ge k S.next with h | h
    · omega
    · rw [hM.dead k h] at hk; cases hk
  have nm : ∀ k t cs, S2.ob k = some (.box t cs) → allL (· < S2.next) cs := fun k t cs hk => by
    rcases (hs k _ hk).2.2 t cs rfl with h | h
    · obtain ⟨b, hb⟩ := hM.live k t cs h
      obtain ⟨vs, _, k2, _⟩ := hM.box k t cs b h hb
      exact allL_mono lt0 (RepL.names k2)
    · exact h
  have sm : ∀ k, (S2.ob k).isSome = true → (S1.ob k).isSome = true := fun k hk => by
    obtain ⟨o, ho⟩ := Option.isSome_iff_exists.1 hk
    rw [(hs k o ho).1]; rfl
  refine ⟨⟨⟨G.mem.base_, fun k hk => by simp only [Names.cut]; rw [if_neg (by omega)], fun k hk => ?_, fun k t cs hk => ?_, fun k k' b h1 h2 h3 h4 => G.mem.inj k k' b (cut k _ h1).2 (cut k' _ h2).2 (sm k h3) (sm k' h4), fun k b hk => G.mem.in_ k b (cut k _ hk).2, fun k t cs b h1 h2 => ?_, fun k e n b h1 h2 => G.mem.row k e n b (hs k _ h1).1 (cut k _ h2).2, G.mem.glob⟩,
    ⟨G.keep.size, fun b i hb hx => ?_, fun k b _ hk => ?_, G.keep.shp⟩, G.below, G.drawn, G.loops⟩, fun d v hd hr => Rep.keep K hd hr⟩
  · cases ho : S2.ob k with
    | none => rfl
    | some o => have := (hs k o ho).2.1; omega
  · obtain ⟨b, hb⟩ := G.mem.live k t cs (hs k _ hk).1
    exact ⟨b, by rw [cut' k (hs k _ hk).2.1]; exact hb⟩
  · obtain ⟨vs, k1, k2, k3⟩ := G.mem.box k t cs b (hs k _ h1).1 (cut k _ h2).2
    exact ⟨vs, k1, RepL.keep K (nm k t cs h1) k2, k3⟩
  · have h1 := G.keep.fix b i hb hx
    exact ⟨fun k o hk hk' => h1.1 k o (cut k _ hk).2 (hs k o hk').1, h1.2⟩
  · have h1 := G.keep.eta k b trivial hk
    rw [cut' k (lt0 k (by rw [hk]; rfl))]
    exact h1
theorem goes_back (hM : Mem P base S η w) {S1 : St} {η1 : Names} {w1 : World} (G : Goes P base S η w S1 η1 w1) (hn : S.next ≤ S1.next) (hs : ∀ k o, S.ob k = some o → S1.ob k = some o) :
    Goes P base S η w S (η1.cut S.next) w1 ∧ ∀ d v, d.all (· < S.next) → Rep P w1 η1 (Fix P S1 η1) d v → Rep P w1 (η1.cut S.next) (Fix P S (η1.cut S.next)) d v :=
  goes_fin hM G hn (Nat.le_refl _) fun k o ho => ⟨hs k o ho, (by
    rcases Nat.lt_or_ge k S.next with h | h
    · exact h
    · rw [hM.fresh k h] at ho; cases ho), fun _ _ _ => .inl ho⟩

theorem run_alloc_new (elem : TypeId) {i : TypeInfo} {z : Value} (hi : P.info? elem = some i) (hz : i.zero = some z) : (Instr.alloc elem true (.tuple #[])).run P w = .ok (.pointer (some ⟨w.heap.size, 0, none⟩)) (w.alloc (.cells z.cells elem)) := by
  simp [Instr.alloc, zeroValue, typeInfo, hi, hz, newVar, newRow]
theorem run_box_new (elem : TypeId) (v : Value) : (Instr.box elem v).run P w = .ok (.pointer (some ⟨w.heap.size, 0, none⟩)) (w.alloc (.cells v.cells elem)) := by
  simp [Instr.box, newVar, newRow]
theorem run_store_box {t t' : TypeId} {b off : Nat} {v : Value} {vs : List Value} (hb : w.heap[b]? = some (.cells vs.toArray t' (0, 0))) {i : TypeInfo} (hi : P.info? t = some i) (hs : v.cells.size = i.size) (h1 : ∀ x ∈ v.cells.toList, x.oneCell' = true) (hl : off + i.size ≤ vs.length) :
    (Instr.storeAt t (.pointer (some ⟨b, off, none⟩)) v).run P w = .ok () (w.setRow b (vs.take off ++ v.cells.toList ++ vs.drop (off + v.cells.toList.length)).toArray) := by
  have hvl : v.cells.toList.length = v.cells.size := Array.length_toList
  have := run_storeCells_at P b off t' v.cells.toList 0 vs.toArray w hb (by simp only [List.size_toArray]; omega) h1
  simp only [Nat.add_zero] at this
  simp [Instr.storeAt, Instr.sureAddr, storeVar, sizeOf, typeInfo, hi, hs, this]
theorem fill_seq {n : Nat} (qs : List (Nat × Value)) : ∀ (k : Nat) (done rest : List Value), qs.map (·.1) = List.range' k qs.length → done.length = k * n → rest.length = qs.length * n → (∀ q ∈ qs, q.2.cells.size = n) →
    Instr.fill (fun i => some (i * n, n)) (done ++ rest).toArray qs = some (done ++ qs.flatMap fun q => q.2.cells.toList).toArray := by
  induction qs with
  | nil => intro k done rest _ h2 h3 _; have : rest = [] := List.eq_nil_of_length_eq_zero (by simpa using h3); subst this; simp [Instr.fill]
  | cons q qs ih =>
    intro k done rest h1 h2 h3 h4
    obtain ⟨j, v⟩ := q
    simp only [List.map_cons, List.length_cons, List.range'_succ, List.cons.injEq] at h1
    obtain ⟨rfl, h1⟩ := h1
    have hv : v.cells.size = n := h4 (j, v) (by simp)
    have hvl : v.cells.toList.length = v.cells.size := Array.length_toList
    have hrl : rest.length = n + qs.length * n := by rw [h3, List.length_cons, Nat.add_mul]; omega
    unfold Instr.fill
    simp only
    have hset := foldl_set (j * n) v.cells.toList 0 (done ++ rest).toArray (by simp only [List.size_toArray, List.length_append]; omega)
    have hz : v.cells.zipIdx.foldl (fun (cs : Array Value) (p : Value × Nat) => cs.setIfInBounds (j * n + p.2) p.1) (done ++ rest).toArray = ((done ++ v.cells.toList) ++ rest.drop n).toArray := by
      rw [← Array.foldl_toList, Array.toList_zipIdx, hset]
      simp only [Nat.add_zero]
      rw [show (done ++ rest).take (j * n) = done by rw [← h2]; exact List.take_left, List.drop_append, List.drop_eq_nil_of_le (by omega), List.nil_append]
      congr 2
      congr 1
      omega
    rw [if_neg (by simp only [List.size_toArray, List.length_append, Bool.or_eq_true, decide_eq_true_eq]; omega), hz]
    rw [ih (j + 1) (done ++ v.cells.toList) (rest.drop n) h1 (by rw [List.length_append, Nat.add_mul]; omega) (by rw [List.length_drop]; omega) (fun q hq => h4 q (by simp [hq]))]
    simp
theorem run_sizeAt (f : Field) (h : (P.info? f.type).isSome = true) : (do pure (f.offset, ← sizeOf f.type) : Sem (Nat × Nat)).run P w = .ok (f.offset, szOf P f.type) w := by
  obtain ⟨ti, hti⟩ := Option.isSome_iff_exists.1 h
  simp [sizeOf, typeInfo, hti, szOf]
theorem run_places : ∀ l : List Field, (∀ f ∈ l, (P.info? f.type).isSome = true) → (l.mapM (m := Sem) fun f => do pure (f.offset, ← sizeOf f.type)).run P w = .ok (l.map fun f => (f.offset, szOf P f.type)) w
  | [], _ => rfl
  | f :: l, hl => by
    have h1 := run_sizeAt (P := P) (w := w) f (hl f (by simp))
    have h2 := run_places l fun g hg => hl g (by simp [hg])
    rw [List.mapM_cons, Sem.run_bind, h1, Result.andThen_ok, Sem.run_bind, h2, Result.andThen_ok]
    rfl
theorem run_build_at {t : TypeId} {pl : Nat → Option (Nat × Nat)} (h : placeT P t = some pl) {z : Value} {i : TypeInfo} (hi : P.info? t = some i) (hz : i.zero = some z) (qs : Array (Nat × Value)) {us : List Value} (hf : Instr.fill pl z.cells qs.toList = some us.toArray) :
    (Instr.build t qs).run P w = .ok (.agg us.toArray) w := by
  unfold placeT at h
  split at h
  · rename_i fs hu
    cases hb : fs.all fun f => (P.info? f.type).isSome with
    | false => rw [hb] at h; cases h
    | true =>
      rw [hb] at h
      injection h with h
      subst h
      have hm : (fs.mapM (m := Sem) fun f => do pure (f.offset, ← sizeOf f.type)).run P w = .ok (fs.map fun f => (f.offset, szOf P f.type)) w := by
        have hl := run_places (P := P) (w := w) fs.toList fun f hf => Array.all_eq_true_iff_forall_mem.1 hb f (by simpa using hf)
        rw [Array.mapM_eq_mapM_toList, map_eq_pure_bind, Sem.run_bind, hl, Result.andThen_ok]
        show Result.ok _ w = _
        congr 1
        apply Array.ext'
        simp
      have hg : (fun i : Nat => (fs.map fun f : Field => (f.offset, szOf P f.type))[i]?) = fun i => (fs[i]?).map fun f : Field => (f.offset, szOf P f.type) := by
        funext i
        simp
      unfold Instr.build
      have hz' : (zeroValue t).run P w = .ok z w := by simp [zeroValue, typeInfo, hi, hz]
      rw [Sem.run_bind, hz', Result.andThen_ok, Sem.run_bind, run_underlying hu, Result.andThen_ok]
      simp only
      rw [Sem.run_bind, hm, Result.andThen_ok]
      rw [hg, hf]
      rfl
  · rename_i n e hu
    cases hb : (P.info? e).isSome with
    | false => rw [hb] at h; cases h
    | true =>
      rw [hb] at h
      injection h with h
      subst h
      obtain ⟨ti, hti⟩ := Option.isSome_iff_exists.1 hb
      have hz' : (zeroValue t).run P w = .ok z w := by simp [zeroValue, typeInfo, hi, hz]
      have hs : (sizeOf e).run P w = .ok (szOf P e) w := by simp [sizeOf, typeInfo, hti, szOf]
      unfold Instr.build
      rw [Sem.run_bind, hz', Result.andThen_ok, Sem.run_bind, run_underlying hu, Result.andThen_ok]
      simp only
      rw [Sem.run_bind, hs, Result.andThen_ok, hf]
      rfl
  · cases h
theorem run_buildSlice_at {t e : TypeId} (he : elT P t = some e) (hz : zeroT P e = true) (n : Nat) (qs : Array (Nat × Value)) (h1 : qs.toList.map (·.1) = List.range n) (h2 : ∀ q ∈ qs.toList, q.2.cells.size = szOf P e) (h3 : n * szOf P e ≤ 16777216) :
    (Instr.buildSlice t n qs).run P w = .ok (.slice (some ⟨w.heap.size, 0, none⟩) n n) (w.alloc (.cells (qs.toList.flatMap fun q => q.2.cells.toList).toArray e)) := by
  obtain ⟨i, z, hi, hzr, hzs, hpos, hsz, _⟩ := zeroT_spec hz
  have hu := elT_spec he
  have hs : (sizeOf e).run P w = .ok (szOf P e) w := by simp [sizeOf, typeInfo, hi, szOf]
  have hz' : (zeroValue e).run P w = .ok z w := by simp [zeroValue, typeInfo, hi, hzr]
  have hlen : qs.toList.length = n := by have := congrArg List.length h1; simpa using this
  have key : ∀ zs : Array Value, zs.size = n * szOf P e → Instr.fill (fun i => some (i * szOf P e, szOf P e)) zs qs.toList = some (qs.toList.flatMap fun q => q.2.cells.toList).toArray := fun zs hzs' => by
    have := fill_seq (n := szOf P e) qs.toList 0 [] zs.toList (by rw [h1, hlen, List.range_eq_range']) (by simp) (by rw [hlen]; simpa using hzs') h2
    simpa using this
  unfold Instr.buildSlice
  rw [Sem.run_bind, run_underlying hu, Result.andThen_ok]
  simp only
  rw [Sem.run_bind, hs, Result.andThen_ok, if_neg (by omega)]
  by_cases h0 : n * szOf P e = 0
  · rw [if_pos h0]
    simp only [Sem.run_bind, Sem.run_pure, Result.andThen_ok]
    rw [key _ (by simp)]
    simp [newRow]
  · rw [if_neg h0]
    simp only [Sem.run_bind, hz', Sem.run_pure, Result.andThen_ok]
    rw [key _ (by simp)]
    simp [newRow]
theorem parts_rep (hf : RepF P w η (Fix P S η) f a) : ∀ (l : List (Nat × Operand)), (∀ p ∈ l, opnOk a.tmps.size p.2 = true) → RepL P w η (Fix P S η) (l.map fun p => ev f p.2) (l.map fun p => a.eval p.2)
  | [], _ => by simp [RepL]
  | p :: l, h => by
    simp only [List.map_cons, RepL]
    exact ⟨_, _, rfl, hf.ev (h p (by simp)), parts_rep hf l fun q hq => h q (by simp [hq])⟩
theorem RepL.flat_ {X : Nat → Nat → Prop} : ∀ {es : List D} {vs : List Value}, RepL P w η X es vs → (∀ d ∈ es, d.okCell = true) → RepL P w η X (flat es) (vs.flatMap fun v => v.cells.toList) ∧ ∀ x ∈ vs.flatMap (fun v => v.cells.toList), x.oneCell' = true
  | [], vs, h, _ => by simp only [RepL] at h; subst h; exact ⟨by simp [flat, RepL], fun x hx => by simp at hx⟩
  | d :: es, vs, h, hk => by
    simp only [RepL] at h
    obtain ⟨x, xs, rfl, h2, h3⟩ := h
    obtain ⟨k1, k2⟩ := RepL.flat_ h3 fun d' hd => hk d' (by simp [hd])
    obtain ⟨g1, g2, _⟩ := h2.cells_ (hk d (by simp))
    simp only [flat, List.flatMap_cons] at *
    exact ⟨g1.append k1, fun y hy => (List.mem_append.1 hy).elim (g2 y) (k2 y)⟩
theorem rep_new_row (hM : Mem P base S η w) {es : List D} {vs : List Value} {e : TypeId} (hr : RepL P w η (Fix P S η) es vs) (hk : ∀ d ∈ es, d.okCell = true ∧ d.width = szOf P e) (hpos : 0 < szOf P e) (hl : es.length ≤ 140737488355328) :
    Rep P (w.alloc (.cells (vs.flatMap fun v => v.cells.toList).toArray e)) η (Fix P S η) (.sl .full es) (.slice (some ⟨w.heap.size, 0, none⟩) es.length es.length) := by
  have G := goes_new hM (.cells (vs.flatMap fun v => v.cells.toList).toArray e)
  obtain ⟨k1, k2⟩ := RepL.flat_ hr fun d hd => (hk d hd).1
  simp only [Rep]
  refine ⟨_, es.length, rfl, Nat.le_refl _, hl, rfl, fun _ => ⟨w.heap.size, 0, szOf P e, rfl, hpos, ?_⟩⟩
  refine RepE.of_flat (fun d hd => (hk d hd).2) (RepC.mk (G.repL k1) (fun j u hj => ?_) (fun j _ k o hk' _ => ?_) k2)
  · rw [Nat.zero_add, cell_of_row _ w.heap.size j _ e (0, 0) (heap_alloc_new w _)]
    simpa using hj
  · have := (hM.in_ k _ hk').2
    omega
theorem append_op (hM : Mem P base S η w) (hf : RepF P w η (Fix P S η) f a) {args : Array Operand} (hop : ∀ x ∈ args.toList, opnOk a.tmps.size x = true) {ts : Array TypeId} {ty : TypeId} {cs : Array Bool} {own own2 : Own} {es es2 : List D} {t tx e : TypeId}
    (h1 : args.toList.map (ev f) = [.sl own es, .sl own2 es2]) (h2 : ts.toList = [t, tx]) (ht : elT P t = some e) (htx : (elT P tx).isSome = true) (hz : zeroT P e = true) (hw1 : ∀ d ∈ es, d.width = szOf P e) (hw2 : ∀ d ∈ es2, d.width = szOf P e)
    (hown : own = .full ∨ ∃ g, own = .row g ∧ S.ob g = some (.row e es.length)) (hlen : es.length + es2.length ≤ 140737488355328) (hby : (es.length + es2.length) * bytesOf P e ≤ 140737488355328) :
    ∃ v' η' w', (builtin .append ts ty cs (args.map a.eval)).run P w = .ok (.value v') w' ∧ Goes P base S η w (S.grow own e (es.length + es2.length)) η' w' ∧ Rep P w' η' (Fix P (S.grow own e (es.length + es2.length)) η') (.sl (.row S.next) (es ++ es2)) v' := by
  have hr := repL_map hf hop
  rw [h1] at hr
  simp only [RepL] at hr
  obtain ⟨v, vs, e1, r1, x, xs, e2, r2, e3⟩ := hr
  subst e3
  subst e2
  have hargs : args.map a.eval = #[v, x] := by apply Array.ext'; simpa using e1
  have hts : ts = #[t, tx] := by apply Array.ext'; simpa using h2
  obtain ⟨v', η', w', k1, k2, k3⟩ := append_step (ty := ty) hM r1 r2 ht htx hz hw1 hw2 hown hlen hby
  refine ⟨v', η', w', ?_, k2, k3⟩
  rw [hargs, hts]
  unfold builtin
  simp only
  rw [Sem.run_bind, k1]
  rfl
theorem zeroCells_mem {z : Array Value} {n : Nat} {x : Value} (h : x ∈ (Builtin.zeroCells z n).toList) : x ∈ z.toList := by
  unfold Builtin.zeroCells at h
  rw [Array.toList_map, List.mem_map] at h
  obtain ⟨i, hi, rfl⟩ := h
  have hi' : i < n * z.size := by simpa using hi
  have hz : 0 < z.size := by
    rcases Nat.eq_zero_or_pos z.size with h | h
    · rw [h] at hi'; simp at hi'
    · exact h
  have hlt := Nat.mod_lt i hz
  rw [getElem!_pos z (i % z.size) hlt]
  simp
theorem append_win (hM : Mem P base S η w) {own2 : Own} {es2 : List D} {v x : Value} {t tx ty e : TypeId} (hv : Rep P w η (Fix P S η) (.sl .full []) v) (hx : Rep P w η (Fix P S η) (.sl own2 es2) x)
    (ht : elT P t = some e) (htx : (elT P tx).isSome = true) (hz : zeroT P e = true) (hz2 : zeroOk P e = true) (hw2 : ∀ d ∈ es2, d.width = szOf P e) (hpos2 : 0 < es2.length) (hlen : es2.length ≤ 140737488355328) (hby : es2.length * bytesOf P e ≤ 140737488355328) :
    ∃ c zs v' η' w', es2.length ≤ c ∧ (flat es2 ++ zs).length = c * szOf P e ∧ (Builtin.append_ #[t, tx] ty #[v, x]).run P w = .ok v' w' ∧ Goes P base S η w (S.add (.box e (flat es2 ++ zs))) η' w' ∧ Rep P w' η' (Fix P (S.add (.box e (flat es2 ++ zs))) η') (.win S.next 0 es2.length c) v' := by
  obtain ⟨i, z, hi, hzr, hzs, hpos, hsz, hbz⟩ := zeroT_spec hz
  obtain ⟨z2, i2, hi2, hz2r, _, hz1, _⟩ := zeroOk_spec hz2
  rw [hi] at hi2
  injection hi2 with hi2
  subst hi2
  rw [hzr] at hz2r
  injection hz2r with hz2r
  subst hz2r
  have hu := elT_spec ht
  have hpos' : 0 < szOf P e := by omega
  obtain ⟨news, hs, hr, h1, A2, c2, hx2, _, _, _⟩ := rep_src (tx := tx) hpos' hx htx hw2
  obtain ⟨olds, hso, hro, h1o, A, c, rfl, hc, ho, hA⟩ := rep_src (tx := t) hpos' hv (by rw [ht]; rfl) (fun d hd => by cases hd)
  have hlo := hso.newsLen
  have hln := hs.newsLen
  rw [hsz] at hs hso hlo hln
  have hc0 : c = 0 := ho
  have ho0 : olds = [] := List.eq_nil_of_length_eq_zero (by rw [hlo]; simp)
  subst ho0
  have hgrow : c < ([] : List D).length + es2.length := by simp only [List.length_nil]; omega
  have hcold := hso.cellsD
  have hrun := run_append_grow_src (P := P) w t tx ty e i z hu hi hzr A ([] : List D).length c [] hcold x es2.length news hs hgrow (by simp only [List.length_nil]; omega) (growslice_fits hgrow (by rw [← hbz]; simpa using hby))
  have G1 := goes_drew hM
  have hge := grownCap_ge w (([] : List D).length + es2.length) c e
  have G3 := G1.trans (goes_name G1.mem (.box e (flat es2 ++ (Builtin.zeroCells z.cells (grownCap w (([] : List D).length + es2.length) c e - (([] : List D).length + es2.length))).toList.map ofV)) (([] ++ news).toArray ++ Builtin.zeroCells z.cells (grownCap w (([] : List D).length + es2.length) c e - (([] : List D).length + es2.length))) e
    (.inl ⟨_, news ++ (Builtin.zeroCells z.cells (grownCap w (([] : List D).length + es2.length) c e - (([] : List D).length + es2.length))).toList, rfl, by apply Array.ext'; simp, RepL.append (G1.repL hr) (zeroD_rep _), fun u hu' => (List.mem_append.1 hu').elim (h1 u) fun hh => hz1 u (zeroCells_mem hh)⟩))
  have hge' : es2.length ≤ grownCap w (([] : List D).length + es2.length) c e := by simpa using hge
  refine ⟨_, _, _, _, _, hge', ?_, hrun, G3, ?_⟩
  · have e1 := size_zeroCells z.cells (grownCap w (([] : List D).length + es2.length) c e - (([] : List D).length + es2.length))
    rw [← Array.length_toList] at e1
    rw [List.length_append, List.length_map, dflat_length hw2, e1, hzs, hsz, ← Nat.add_mul]
    congr 1
    simp only [List.length_nil, Nat.zero_add] at hge' ⊢
    omega
  simp only [Rep]
  exact .inl ⟨w.heap.size, by simp only [Names.add, ↓reduceIte]; rfl, by simp only [List.length_nil, Nat.zero_add], hge', hlen⟩
theorem append_win_op (hM : Mem P base S η w) (hf : RepF P w η (Fix P S η) f a) {args : Array Operand} (hop : ∀ x ∈ args.toList, opnOk a.tmps.size x = true) {ts : Array TypeId} {ty : TypeId} {cs : Array Bool} {own2 : Own} {es2 : List D} {t tx e : TypeId}
    (h1 : args.toList.map (ev f) = [.sl .full [], .sl own2 es2]) (h2 : ts.toList = [t, tx]) (ht : elT P t = some e) (htx : (elT P tx).isSome = true) (hz : zeroT P e = true) (hz2 : zeroOk P e = true) (hw2 : ∀ d ∈ es2, d.width = szOf P e)
    (hpos2 : 0 < es2.length) (hlen : es2.length ≤ 140737488355328) (hby : es2.length * bytesOf P e ≤ 140737488355328) :
    ∃ c zs v' η' w', es2.length ≤ c ∧ (flat es2 ++ zs).length = c * szOf P e ∧ (builtin .append ts ty cs (args.map a.eval)).run P w = .ok (.value v') w' ∧ Goes P base S η w (S.add (.box e (flat es2 ++ zs))) η' w' ∧ Rep P w' η' (Fix P (S.add (.box e (flat es2 ++ zs))) η') (.win S.next 0 es2.length c) v' := by
  have hr := repL_map hf hop
  rw [h1] at hr
  simp only [RepL] at hr
  obtain ⟨v, vs, e1, r1, x, xs, e2, r2, e3⟩ := hr
  subst e3
  subst e2
  have hargs : args.map a.eval = #[v, x] := by apply Array.ext'; simpa using e1
  have hts : ts = #[t, tx] := by apply Array.ext'; simpa using h2
  obtain ⟨c, zs, v', η', w', j1, j2, k1, k2, k3⟩ := append_win (ty := ty) hM r1 r2 ht htx hz hz2 hw2 hpos2 hlen hby
  refine ⟨c, zs, v', η', w', j1, j2, ?_, k2, k3⟩
  rw [hargs, hts]
  unfold builtin
  simp only
  rw [Sem.run_bind, k1]
  rfl
theorem Rep.own_no {X : Nat → Nat → Prop} {o : Own} {es : List D} {v : Value} (h : Rep P w η X (.sl o es) v) : Rep P w η X (.sl .no es) v := by
  simp only [Rep] at *
  obtain ⟨A, c, h1, h2, h3, _, h5⟩ := h
  exact ⟨A, c, h1, h2, h3, trivial, h5⟩
theorem Mem.lt (hM : Mem P base S η w) {k : Nat} (h : (η k).isSome = true) : k < S.next := by
  rcases Nat.lt_or_ge k S.next with h' | h'
  · exact h'
  · rw [hM.dead k h'] at h; cases h
theorem dnew_sound (hM : Mem P base S η w) (hf : RepF P w η (Fix P S η) f a) {o : Oper} (hop0 : opsOk a.tmps.size o.op = true) {c : Prop} {d : D} (h : dnew P f S o.op = some (c, d)) (hc : c) :
    ∃ v w' η', (execOp a.eval o).run P w = .ok (.value v) w' ∧ Goes P base S η w S η' w' ∧ Rep P w' η' (Fix P S η') d v := by
  have hop := opsOk_spec hop0
  clear hop0
  obtain ⟨dst, op, ty, pos, after, guard⟩ := o
  unfold dnew at h
  simp only at h hop
  split at h
  · -- buildSlice
    rename_i t n ps
    split at h
    · rename_i e he
      injection h with h; injection h with hp hd; subst hp hd
      obtain ⟨k1, k2, k3, k4⟩ := hc
      obtain ⟨i, z, hi, hzr, hzs, hpos, hsz, _⟩ := zeroT_spec k1
      have hr := parts_rep hf ps.toList fun p hp => hop p.2 (by simp only [Op.operands]; simp; exact ⟨p.1, by simpa using hp⟩)
      have hlen : ps.toList.length = n := by have := congrArg List.length k2; simpa using this
      have hl : (ps.toList.map fun p => ev f p.2).length = n := by rw [List.length_map, hlen]
      have hnb : n ≤ 140737488355328 := by
        have h1 : n * 1 ≤ n * szOf P e := Nat.mul_le_mul_left _ (by omega)
        omega
      have hg := rep_new_row hM hr k4 (by omega) (by rw [hl]; exact hnb)
      have hfl : ((ps.map fun (i, x) => (i, a.eval x)).toList.flatMap fun q => q.2.cells.toList) = (ps.toList.map fun p => a.eval p.2).flatMap fun v => v.cells.toList := by
        simp [List.flatMap_map]
      have hrun := run_buildSlice_at (w := w) he k1 n (ps.map fun (i, x) => (i, a.eval x)) (by simpa [Function.comp_def] using k2) (fun q hq => by
        simp only [Array.toList_map, List.mem_map] at hq
        obtain ⟨p, hp, rfl⟩ := hq
        have hm : ev f p.2 ∈ ps.toList.map fun p => ev f p.2 := List.mem_map.2 ⟨p, hp, rfl⟩
        have := (hf.ev (hop p.2 (by simp only [Op.operands]; simp; exact ⟨p.1, by simpa using hp⟩))).cells_ (k4 _ hm).1
        rw [this.2.2]
        exact (k4 _ hm).2) k3
      rw [hfl] at hrun
      refine ⟨_, _, η, ?_, goes_new hM _, by rw [hl] at hg; exact hg⟩
      unfold execOp
      simp only
      rw [Sem.run_bind, hrun]
      rfl
    · cases h
  · -- build
    rename_i t ps
    split at h
    · rename_i pl hpl
      injection h with h; injection h with hp hd; subst hp hd
      obtain ⟨k1, k2⟩ := hc
      obtain ⟨z, i, hi, hz, hzd, hz1, hzs⟩ := zeroOk_spec k1
      have hr := parts_rep hf ps.toList fun p hp => hop p.2 (by simp only [Op.operands]; simp; exact ⟨p.1, by simpa using hp⟩)
      rw [hzd] at k2 ⊢
      obtain ⟨us, g1, g2, g3⟩ := fill_sound (P := P) (w := w) (η := η) (X := Fix P S η) pl (ps.toList.map fun p => (p.1, ev f p.2)) (ps.toList.map fun p => (p.1, a.eval p.2)) (z.cells.toList.map ofV) z.cells.toList (by simp) (by rw [List.map_map, List.map_map]; exact hr) (zeroD_rep _) hz1 k2
      have hq : (ps.map fun (i, x) => (i, a.eval x)).toList = ps.toList.map fun p => (p.1, a.eval p.2) := by simp
      have hrun := run_build_at (w := w) hpl hi hz (ps.map fun (i, x) => (i, a.eval x)) (us := us) (by rw [hq]; simpa using g1)
      refine ⟨.agg us.toArray, w, η, ?_, Goes.refl hM, by simp only [Rep]; exact ⟨us, rfl, g2, g3⟩⟩
      unfold execOp
      simp only
      rw [Sem.run_bind, hrun]
      rfl
    · cases h
  · -- append
    rename_i args ts
    split at h
    · rename_i es own2 es2 t tx h1 h2
      split at h
      · rename_i e he
        injection h with h; injection h with hp hd; subst hp hd
        obtain ⟨k1, k2, k3, k4, k5, k6⟩ := hc
        obtain ⟨v', η', w', g1, g2, g3⟩ := append_op (ty := ty) (cs := args.map isConstB) hM hf (fun x hx => hop x (by simp only [Op.operands, Call.operands, Array.mem_append]; exact .inr (by simpa using hx))) h1 h2 he k1 k2 k3 k4 (.inl rfl) k5 k6
        have G2 := g2.trans (goes_drop g2.mem S.next)
        have hb := goes_back hM G2 (Nat.le_succ _) (fun k o ho => by
          have : k ≠ S.next := fun e => by subst e; rw [hM.fresh _ (Nat.le_refl _)] at ho; cases ho
          simp [St.drop, St.grow, St.leave, St.add, this, ho])
        have ha := repL_map hf (l := args.toList) (fun x hx => hop x (by simp only [Op.operands, Call.operands, Array.mem_append]; exact .inr (by simpa using hx)))
        have hn := allL_mono (fun k hk => hM.lt hk) (RepL.names ha)
        rw [h1] at hn
        simp only [allL, D.all] at hn
        refine ⟨v', w', _, ?_, hb.1, hb.2 _ _ ?_ ((goes_drop g2.mem S.next).rep g3).own_no⟩
        · rw [run_builtin_op]; exact g1
        · simp only [D.all]
          exact ⟨trivial, allL_iff.2 fun d hd => (List.mem_append.1 hd).elim (allL_iff.1 hn.1.2 d) (allL_iff.1 hn.2.1.2 d)⟩
      · cases h
    · cases h
  · -- bytes of a string
    rename_i s t x
    split at h
    · rename_i str hx
      split at h
      · rename_i e he
        injection h with h; injection h with hp hd; subst hp hd
        obtain ⟨k1, k2, k3⟩ := hc
        have hev := hf.ev (hop x (by simp [Op.operands]))
        rw [hx] at hev
        simp only [Rep] at hev
        have hrun := run_bytes_of_string (P := P) w s t e str (strT_spec k2) (elT_spec he) (u8T_spec k1)
        have hl : str.data.toList.length = str.size := by simp
        have G1 := goes_drew hM
        have G2 := G1.trans (goes_new G1.mem (.cells (bytesRow str (grownCap w str.size 0 e)) e ((bytesRow str (grownCap w str.size 0 e)).size, (bytesRow str (grownCap w str.size 0 e)).size + 1)))
        refine ⟨.slice (some ⟨w.heap.size, 0, none⟩) str.size (grownCap w str.size 0 e), _, η, ?_, G2, ?_⟩
        · unfold execOp
          simp only [hev]
          rw [Sem.run_bind, hrun]
          rfl
        · simp only [Rep]
          refine ⟨some ⟨w.heap.size, 0, none⟩, grownCap w str.size 0 e, by rw [List.length_map, hl], by rw [List.length_map, hl]; exact grownCap_ge _ _ _ _, by rw [List.length_map]; exact k3, trivial, fun _ => ⟨w.heap.size, 0, 1, rfl, by omega, RepE.mk fun j d hj => ?_⟩⟩
          rw [List.getElem?_map] at hj
          obtain ⟨u, hu, rfl⟩ := Option.map_eq_some_iff.1 hj
          refine ⟨trivial, fun _ => ⟨rfl, fun k o hk' _ => ?_, bv u, ?_, rfl, by simp only [bD, Rep]⟩⟩
          · have := (hM.in_ k _ hk').2
            omega
          · rw [Nat.zero_add, Nat.mul_one]
            have hj' : j < str.data.size := by
              rcases Nat.lt_or_ge j str.data.size with h1 | h1
              · exact h1
              · rw [List.getElem?_eq_none (by simpa using h1)] at hu; cases hu
            rw [show (⟨w.heap.size, j, none⟩ : Addr) = ⟨w.drew.heap.size, j, none⟩ from rfl, World.cell?_alloc_mark, bytesRow_at str _ j hj']
            rw [Array.getElem?_toList, Array.getElem?_eq_getElem hj'] at hu
            injection hu with hu
            rw [← hu]
      · cases h
    · cases h
  · cases h
theorem rep_lit0 (hM : Mem P base S η w) (l : List UInt8) (e : TypeId) (hl : l.length ≤ 140737488355328) : Rep P (w.alloc (.cells (l.map bv).toArray e)) η (Fix P S η) (.sl .no (l.map bD)) (.slice (some ⟨w.heap.size, 0, none⟩) l.length l.length) := by
  simp only [Rep]
  refine ⟨some ⟨w.heap.size, 0, none⟩, l.length, by rw [List.length_map], by rw [List.length_map]; exact Nat.le_refl _, by rw [List.length_map]; exact hl, trivial, fun _ => ⟨w.heap.size, 0, 1, rfl, by omega, RepE.mk fun j d hj => ?_⟩⟩
  rw [List.getElem?_map] at hj
  obtain ⟨u, hu, rfl⟩ := Option.map_eq_some_iff.1 hj
  refine ⟨trivial, fun _ => ⟨rfl, fun k o hk' _ => ?_, bv u, ?_, rfl, by simp only [bD, Rep]⟩⟩
  · have := (hM.in_ k _ hk').2
    omega
  · rw [Nat.zero_add, Nat.mul_one, World.cell?_alloc_mark]
    simp [hu]
theorem rep_lit (hM : Mem P base S η w) (l : List UInt8) (e : TypeId) (hl : l.length ≤ 140737488355328) : Rep P (w.alloc (.cells (l.map bv).toArray e ((l.map bv).toArray.size, (l.map bv).toArray.size + 1))) η (Fix P S η) (.sl .no (l.map bD)) (.slice (some ⟨w.heap.size, 0, none⟩) l.length l.length) := by
  simp only [Rep]
  refine ⟨some ⟨w.heap.size, 0, none⟩, l.length, by rw [List.length_map], by rw [List.length_map]; exact Nat.le_refl _, by rw [List.length_map]; exact hl, trivial, fun _ => ⟨w.heap.size, 0, 1, rfl, by omega, RepE.mk fun j d hj => ?_⟩⟩
  rw [List.getElem?_map] at hj
  obtain ⟨u, hu, rfl⟩ := Option.map_eq_some_iff.1 hj
  refine ⟨trivial, fun _ => ⟨rfl, fun k o hk' _ => ?_, bv u, ?_, rfl, by simp only [bD, Rep]⟩⟩
  · have := (hM.in_ k _ hk').2
    omega
  · rw [Nat.zero_add, Nat.mul_one, World.cell?_alloc_mark]
    simp [hu]
end
end Go.Proofs.YtonncfminojejaaGreatDoor

namespace Go.Proofs.YtonncfminojejaaGreatDoor
open Go.RowKit

def St.WF (S : St) : Prop := ∀ k, S.next ≤ k → S.ob k = none

section
variable {P : Program} {base : Nat} {S : St} {η : Names} {w : World} {f : Fm} {a : Act}
def Left (P : Program) (base : Nat) (S : St) (η : Names) (w : World) (a : Act) (dst : Option Tmp) (K : D → St → Prop) (a' : Act) (w' : World) : Prop :=
  ∃ d v S' η', K d S' ∧ Goes P base S η w S' η' w' ∧ Rep P w' η' (Fix P S' η') d v ∧ a' = a.put dst v
theorem wp_value {o : Oper} {v : Value} {w' : World} {K : Act → World → Prop} {Q : Exit → Act → World → Prop} (h : (execOp a.eval o).run P w = .ok (.value v) w') (hk : K (a.put o.dst v) w') : o.wp P a w K Q := by
  unfold Oper.wp
  rw [h]
  exact hk
theorem wp_of_val (hM : Mem P base S η w) (hf : RepF P w η (Fix P S η) f a) {o : Oper} (hop : opsOk a.tmps.size o.op = true) {K : D → St → Prop} {Q : Exit → Act → World → Prop}
    (h : onVal (dval P f S o.type o.op) fun d => K d S) : o.wp P a w (Left P base S η w a o.dst K) Q := by
  cases hd : dval P f S o.type o.op with
  | none => rw [hd] at h; exact h.elim
  | some p =>
    obtain ⟨c, d⟩ := p
    rw [hd] at h
    obtain ⟨v, h1, h2⟩ := dval_sound hM hf hop hd h.1
    exact wp_value h1 ⟨d, v, S, η, h.2, Goes.refl hM, h2, rfl⟩
theorem wp_of_new (hM : Mem P base S η w) (hf : RepF P w η (Fix P S η) f a) {o : Oper} (hop : opsOk a.tmps.size o.op = true) {K : D → St → Prop} {Q : Exit → Act → World → Prop}
    (h : onVal (dnew P f S o.op) fun d => K d S) : o.wp P a w (Left P base S η w a o.dst K) Q := by
  cases hd : dnew P f S o.op with
  | none => rw [hd] at h; exact h.elim
  | some p =>
    obtain ⟨c, d⟩ := p
    rw [hd] at h
    obtain ⟨v, w', η', h1, h2, h3⟩ := dnew_sound hM hf hop hd h.1
    exact wp_value h1 ⟨d, v, S, η', h.2, h2, h3, rfl⟩
theorem wp_of_next {o : Oper} {g : FuncId} {us : List Value} (hrun : (execOp a.eval o).run P w = (callFunc g us.toArray).run P w) {K : D → St → Prop} {Q : Exit → Act → World → Prop}
    (h : ((callFunc g us.toArray).run P w = .ok (.enter g us.toArray) w ∧
      Calls P g us.toArray w fun e w' => ∃ d S' η' v, K d S' ∧ e = .returned v ∧ Rep P w' η' (Fix P S' η') d v ∧ Goes P base S η w S' η' w') ∨
      ∃ d S' η' v w', (callFunc g us.toArray).run P w = .ok (.value v) w' ∧ K d S' ∧ Rep P w' η' (Fix P S' η') d v ∧ Goes P base S η w S' η' w') : o.wp P a w (Left P base S η w a o.dst K) Q := by
  rcases h with ⟨k1, k2⟩ | ⟨d, S', η', v, w', k1, k2, k3, k4⟩
  · unfold Oper.wp
    rw [hrun, k1]
    simp only [Oper.upon]
    refine k2.mono fun e w' ⟨d, S', η', v, g1, g2, g3, g4⟩ => ?_
    subst g2
    exact ⟨d, v, S', η', g1, g4, g3, rfl⟩
  · exact wp_value (hrun.trans k1) ⟨d, v, S', η', k2, k4, k3, rfl⟩
theorem wp_of_call (hM : Mem P base S η w) (hf : RepF P w η (Fix P S η) f a) (dst : Option Tmp) (x : Operand) (args : Array Operand) (ts : Array TypeId) (ty : TypeId) (pos : String) (after : Array Edge) (guard : Option (Nat × Bool))
    (hop : ∀ y ∈ (Op.call ⟨.value x, args, ts⟩).operands, opnOk a.tmps.size y = true) {g : FuncId} {fs cs : List D} (hx : ev f x = .fn (.func g) fs cs) {K : D → St → Prop} {Q : Exit → Act → World → Prop}
    (h : DCalls P g (fs ++ args.toList.map (ev f) ++ cs) S K) : Oper.wp P ⟨dst, .call ⟨.value x, args, ts⟩, ty, pos, after, guard⟩ a w (Left P base S η w a dst K) Q := by
  have h1 := hf.ev (hop x (by simp [Op.operands, Call.operands]))
  rw [hx] at h1
  simp only [Rep] at h1
  obtain ⟨us, vs, e1, e2, e3⟩ := h1
  have h2 := repL_map hf (l := args.toList) fun y hy => hop y (by simp only [Op.operands, Call.operands, Array.mem_append]; exact .inr (by simpa using hy))
  have hrun : (execOp a.eval ⟨dst, .call ⟨.value x, args, ts⟩, ty, pos, after, guard⟩).run P w = (callFunc g (us ++ args.toList.map a.eval ++ vs).toArray).run P w := by
    unfold execOp
    simp only [resolve, Sem.run_bind, e1, Deferred.ofValue, Sem.run_pure, Result.andThen_ok, invoke]
    congr 2
    apply Array.ext'
    simp
  exact wp_of_next hrun (h base η w (us ++ args.toList.map a.eval ++ vs) hM ((e2.append h2).append e3))
theorem wp_of_invoke (hM : Mem P base S η w) (hf : RepF P w η (Fix P S η) f a) (dst : Option Tmp) (x : Operand) (m : String) (args : Array Operand) (ts : Array TypeId) (ty : TypeId) (pos : String) (after : Array Edge) (guard : Option (Nat × Bool))
    (hop : ∀ y ∈ (Op.call ⟨.invoke x m, args, ts⟩).operands, opnOk a.tmps.size y = true) {t : TypeId} {d : D} (hx : ev f x = .ifc t d) {g : FuncId} {d' : D} (hm : DMeth P t d m g d') {K : D → St → Prop} {Q : Exit → Act → World → Prop}
    (h : DCalls P g (d' :: args.toList.map (ev f)) S K) : Oper.wp P ⟨dst, .call ⟨.invoke x m, args, ts⟩, ty, pos, after, guard⟩ a w (Left P base S η w a dst K) Q := by
  have h1 := hf.ev (hop x (by simp [Op.operands, Call.operands]))
  rw [hx] at h1
  simp only [Rep] at h1
  obtain ⟨u, e1, e2⟩ := h1
  obtain ⟨u', m1, m2⟩ := hm w η _ u e2
  have h2 := repL_map hf (l := args.toList) fun y hy => hop y (by simp only [Op.operands, Call.operands, Array.mem_append]; exact .inr (by simpa using hy))
  have hrun : (execOp a.eval ⟨dst, .call ⟨.invoke x m, args, ts⟩, ty, pos, after, guard⟩).run P w = (callFunc g (u' :: args.toList.map a.eval).toArray).run P w := by
    unfold execOp
    simp only [resolve, Sem.run_bind, e1, Sem.run_pure, Result.andThen_ok, invoke, callMethod]
    have e0 : (#[Value.iface t u] ++ Array.map a.eval args)[0]? = some (.iface t u) := by rw [← Array.getElem?_toList]; simp only [Array.toList_append, List.cons_append, List.getElem?_cons_zero]
    have e3 : (#[u'] ++ (#[Value.iface t u] ++ Array.map a.eval args).extract 1 (#[Value.iface t u] ++ Array.map a.eval args).size) = (u' :: args.toList.map a.eval).toArray := by
      apply Array.ext'
      simp
      exact List.take_of_length_le (by simp)
    rw [← e3]
    generalize #[Value.iface t u] ++ Array.map a.eval args = V at *
    rw [e0]
    simp only [Sem.run_bind, program, Sem.run, Result.andThen_ok, m1]
  exact wp_of_next hrun (h base η w (u' :: args.toList.map a.eval) hM (by simp only [RepL]; exact ⟨u', _, rfl, m2, h2⟩))
theorem wp_of_step {o : Oper} {run : List Value → Sem Value} {l : List D} {vs : List Value} (hM : Mem P base S η w) (hr : RepL P w η (Fix P S η) l vs) (he : ∀ v w', ((run vs).run P w = .ok v w') → (execOp a.eval o).run P w = .ok (.value v) w') {K : D → St → Prop} {Q : Exit → Act → World → Prop}
    (h : DRun P run l S K) : o.wp P a w (Left P base S η w a o.dst K) Q := by
  obtain ⟨d, S', η', v, w', k1, k2, k3, k4⟩ := h base η w vs hM hr
  exact wp_value (he v w' k1) ⟨d, v, S', η', k2, k4, k3, rfl⟩
theorem wp_of_mapUpdate {o : Oper} {t : TypeId} {l : List D} {x y z : Value} (hM : Mem P base S η w) (hr : RepL P w η (Fix P S η) l [x, y, z]) (he : execOp a.eval o = (do Instr.mapUpdate t x y z; pure .skip)) {K : D → St → Prop} {Q : Exit → Act → World → Prop}
    (h : DRun P (fun vs => do Instr.mapUpdate t (vs.getD 0 undef) (vs.getD 1 undef) (vs.getD 2 undef); pure undef) l S fun d S' => d = undefD ∧ K d S') : o.wp P a w (Left P base S η w a o.dst K) Q := by
  obtain ⟨d, S', η', v, w', k1, ⟨rfl, k2⟩, k3, k4⟩ := h base η w _ hM hr
  simp only [List.getD_cons_zero, List.getD_cons_succ, Sem.run_bind] at k1
  unfold Oper.wp
  rw [he, Sem.run_bind]
  cases hu : (Instr.mapUpdate t x y z).run P w with
  | ok u w1 =>
    rw [hu] at k1
    simp only [Result.andThen_ok, Sem.run_pure, Result.ok.injEq] at k1
    obtain ⟨rfl, rfl⟩ := k1
    simp only [Result.andThen_ok, Sem.run_pure]
    exact ⟨undefD, _, S', η', k2, k4, by simp only [Rep, RepL]; exact ⟨[], rfl, rfl⟩, rfl⟩
  | _ => rw [hu] at k1; cases k1
theorem run_step_builtin {dst : Option Tmp} {b : Builtin} {args : Array Operand} {ts : Array TypeId} {ty : TypeId} {pos : String} {after : Array Edge} {guard : Option (Nat × Bool)} {s : Array Value → Sem Value} {v : Value} {w' : World}
    (hv : (s (args.toList.map a.eval).toArray).run P w = .ok v w') (hb : builtin b ts ty (args.map isConstB) = fun vs => do pure (.value (← s vs))) : (execOp a.eval ⟨dst, .call ⟨.builtin b, args, ts⟩, ty, pos, after, guard⟩).run P w = .ok (.value v) w' := by
  rw [run_builtin_op, hb]
  have : (args.toList.map a.eval).toArray = args.map a.eval := by apply Array.ext'; simp
  rw [this] at hv
  simp only [Sem.run_bind, hv]
  rfl
theorem dop_sound (hM : Mem P base S η w) (hf : RepF P w η (Fix P S η) f a) {o : Oper} (hop : opsOk a.tmps.size o.op = true) {K : D → St → Prop} {Q : Exit → Act → World → Prop}
    (h : dop P f S o.type o.op K) : o.wp P a w (Left P base S η w a o.dst K) Q := by
  have hop' := opsOk_spec hop
  obtain ⟨dst, op, ty, pos, after, guard⟩ := o
  cases op with
  | alloc t =>
    simp only [dop] at h
    obtain ⟨h1, h2⟩ := h
    obtain ⟨z, i, hi, hz, hzd, hz1, _⟩ := zeroOk_spec h1
    have hrun : (execOp a.eval ⟨dst, .alloc t, ty, pos, after, guard⟩).run P w = .ok (.value (.pointer (some ⟨w.heap.size, 0, none⟩))) (w.alloc (.cells z.cells t)) := by
      unfold execOp
      simp only
      rw [Sem.run_bind, run_alloc_new t hi hz]
      rfl
    rw [hzd] at h2
    have G := goes_name hM (.box t (z.cells.toList.map ofV)) z.cells t (.inl ⟨_, z.cells.toList, rfl, by simp, zeroD_rep _, hz1⟩)
    exact wp_value hrun ⟨_, _, _, _, h2, G, by simp only [Rep]; exact ⟨w.heap.size, by simp only [Names.add, ↓reduceIte], rfl⟩, rfl⟩
  | box t x =>
    simp only [dop] at h
    obtain ⟨h1, h2⟩ := h
    have hx := (hf.ev (hop' x (by simp [Op.operands]))).cells_ h1
    have hrun : (execOp a.eval ⟨dst, .box t x, ty, pos, after, guard⟩).run P w = .ok (.value (.pointer (some ⟨w.heap.size, 0, none⟩))) (w.alloc (.cells (a.eval x).cells t)) := by
      unfold execOp
      simp only
      rw [Sem.run_bind, run_box_new]
      rfl
    have G := goes_name hM (.box t (ev f x).cells) (a.eval x).cells t (.inl ⟨_, (a.eval x).cells.toList, rfl, by simp, hx.1, hx.2.1⟩)
    exact wp_value hrun ⟨_, _, _, _, h2, G, by simp only [Rep]; exact ⟨w.heap.size, by simp only [Names.add, ↓reduceIte], rfl⟩, rfl⟩
  | store t x y =>
    simp only [dop] at h
    have h1 := hf.ev (hop' x (by simp [Op.operands]))
    have h2 := hf.ev (hop' y (by simp [Op.operands]))
    split at h
    · rename_i k off hx
      rw [hx] at h1
      simp only [Rep] at h1
      obtain ⟨b, e1, e2⟩ := h1
      split at h
      · rename_i t' cs hk
        obtain ⟨g1, g2, g3, g4, g5⟩ := h
        obtain ⟨i, hi⟩ := Option.isSome_iff_exists.1 g2
        have hsz : szOf P t = i.size := by simp [szOf, hi]
        obtain ⟨c1, c2, c3⟩ := h2.cells_ g1
        obtain ⟨vs, k1, k2, k3⟩ := hM.box k t' cs b hk e1
        have hl := k2.length
        have hrun : (execOp a.eval ⟨dst, .store t x y, ty, pos, after, guard⟩).run P w = .ok .skip (w.setRow b (vs.take off ++ (a.eval y).cells.toList ++ vs.drop (off + (a.eval y).cells.toList.length)).toArray) := by
          unfold execOp
          simp only
          rw [Sem.run_bind, e2, run_store_box k1 hi (by rw [c3, g3, hsz]) c2 (by omega)]
          rfl
        have hcl : (splice cs off (ev f y).cells).length = cs.length := by
          have : (ev f y).cells.length = szOf P t := g3
          simp only [splice, List.length_append, List.length_take, List.length_drop]
          omega
        have G := goes_set hM hk e1 hcl (splice_rep k2 c1) (fun u hu => by
          rcases List.mem_append.1 hu with hu | hu
          · rcases List.mem_append.1 hu with hu | hu
            · exact k3 u (List.mem_of_mem_take hu)
            · exact c2 u hu
          · exact k3 u (List.mem_of_mem_drop hu))
        unfold Oper.wp
        rw [hrun]
        exact ⟨_, _, _, _, g5, G, by simp only [Rep, RepL]; exact ⟨[], rfl, rfl⟩, rfl⟩
      · exact h.elim
    · exact h.elim
  | buildSlice t n ps => exact wp_of_new hM hf hop h
  | build t ps => exact wp_of_new hM hf hop h
  | convert s t x =>
    simp only [dop] at h
    cases hd : dnew P f S (.convert s t x) with
    | some p =>
      rw [hd, orD_some] at h
      refine wp_of_new hM hf hop ?_
      show onVal (dnew P f S (.convert s t x)) _
      rw [hd]
      exact h
    | none =>
      rw [hd, orD_none] at h
      exact wp_of_val hM hf hop h
  | call cl =>
    obtain ⟨callee, args, ts⟩ := cl
    cases callee with
    | value x =>
      simp only [dop] at h
      split at h
      · rename_i g fs cs hx
        exact wp_of_call hM hf dst x args ts ty pos after guard hop' hx h
      · exact h.elim
    | invoke r m =>
      simp only [dop] at h
      split at h
      · rename_i t d hx
        obtain ⟨g, d', h1, h2⟩ := h
        exact wp_of_invoke hM hf dst r m args ts ty pos after guard hop' hx h1 h2
      · exact h.elim
    | builtin b =>
      by_cases hb : b = .append
      · subst hb
        simp only [dop] at h
        split at h
        · rename_i own es own2 es2 t tx h1 h2
          split at h
          · rename_i e he
            rcases h with ⟨k1, k2, k3, k4, k5, k6, k7, k8⟩ | ⟨rfl, rfl, j1, j2, j3, j4, j5, j6, j7, j8⟩ | h
            rotate_left 2
            · have hr := repL_map hf (l := args.toList) (fun x hx => hop' x (by simp only [Op.operands, Call.operands, Array.mem_append]; exact .inr (by simpa using hx)))
              exact wp_of_step hM hr (fun v w' hv => run_step_builtin hv rfl) h
            rotate_right
            · obtain ⟨c, zs, v', η', w', j11, j12, g1, g2, g3⟩ := append_win_op (ty := ty) (cs := args.map isConstB) hM hf (fun x hx => hop' x (by simp only [Op.operands, Call.operands, Array.mem_append]; exact .inr (by simpa using hx))) h1 h2 he j2 j3 j4 j5 j1 j6 j7
              exact wp_value (by rw [run_builtin_op]; exact g1) ⟨_, v', _, η', j8 c zs j11 j12, g2, g3, rfl⟩
            have hown : own = .full ∨ ∃ g, own = .row g ∧ S.ob g = some (.row e es.length) := by
              cases own with
              | no => exact k5.elim
              | full => exact .inl rfl
              | row g => exact .inr ⟨g, rfl, k5⟩
            obtain ⟨v', η', w', g1, g2, g3⟩ := append_op (ty := ty) (cs := args.map isConstB) hM hf (fun x hx => hop' x (by simp only [Op.operands, Call.operands, Array.mem_append]; exact .inr (by simpa using hx))) h1 h2 he k1 k2 k3 k4 hown k6 k7
            exact wp_value (by rw [run_builtin_op]; exact g1) ⟨_, v', _, η', k8, g2, g3, rfl⟩
          · exact h.elim
        · rename_i k off n c r h1
          have hr := repL_map hf (l := args.toList) (fun x hx => hop' x (by simp only [Op.operands, Call.operands, Array.mem_append]; exact .inr (by simpa using hx)))
          rw [h1] at hr
          exact wp_of_step hM hr (fun v w' hv => run_step_builtin hv rfl) h
        · rename_i own es k off n c h1
          have hr := repL_map hf (l := args.toList) (fun x hx => hop' x (by simp only [Op.operands, Call.operands, Array.mem_append]; exact .inr (by simpa using hx)))
          rw [h1] at hr
          exact wp_of_step hM hr (fun v w' hv => run_step_builtin hv rfl) h
        · rename_i own es u h1
          have hr := repL_map hf (l := args.toList) (fun x hx => hop' x (by simp only [Op.operands, Call.operands, Array.mem_append]; exact .inr (by simpa using hx)))
          rw [h1] at hr
          exact wp_of_step hM hr (fun v w' hv => run_step_builtin hv rfl) h
        · exact h.elim
      · have hr := repL_map hf (l := args.toList) (fun x hx => hop' x (by simp only [Op.operands, Call.operands, Array.mem_append]; exact .inr (by simpa using hx)))
        cases b with
        | append => exact absurd rfl hb
        | copy => exact wp_of_step hM hr (fun v w' hv => run_step_builtin hv rfl) h
        | clear => exact wp_of_step hM hr (fun v w' hv => run_step_builtin hv rfl) h
        | delete => exact wp_of_step hM hr (fun v w' hv => run_step_builtin hv rfl) h
        | _ => exact wp_of_val hM hf hop h
  | makeSlice t x y =>
    exact wp_of_step hM (vs := [a.eval x, a.eval y]) (by simp only [RepL]; exact ⟨_, _, rfl, hf.ev (hop' x (by simp [Op.operands])), _, _, rfl, hf.ev (hop' y (by simp [Op.operands])), rfl⟩) (fun v w' hv => by unfold execOp; simp only [List.getD_cons_zero, List.getD_cons_succ] at hv; simp only [Sem.run_bind, hv]; rfl) h
  | typeAssert x xt t ok =>
    exact wp_of_step hM (vs := [a.eval x]) (by simp only [RepL]; exact ⟨_, _, rfl, hf.ev (hop' x (by simp [Op.operands])), rfl⟩) (fun v w' hv => by unfold execOp; simp only [List.getD_cons_zero] at hv; simp only [Sem.run_bind, hv]; rfl) h
  | lookup t x i ok =>
    exact wp_of_step hM (vs := [a.eval x, a.eval i]) (by simp only [RepL]; exact ⟨_, _, rfl, hf.ev (hop' x (by simp [Op.operands])), _, _, rfl, hf.ev (hop' i (by simp [Op.operands])), rfl⟩) (fun v w' hv => by unfold execOp; simp only [List.getD_cons_zero, List.getD_cons_succ] at hv; simp only [Sem.run_bind, hv]; rfl) h
  | makeMap t r =>
    have hr := repL_map hf (l := r.toList) (fun x hx => hop' x (by simpa [Op.operands] using hx))
    exact wp_of_step hM hr (fun v w' hv => by
      unfold execOp
      have : (r.toList.map a.eval).head? = r.map a.eval := by cases r <;> rfl
      rw [this] at hv
      simp only [Sem.run_bind, hv]; rfl) h
  | mapUpdate t m k x => exact wp_of_mapUpdate (t := t) hM (x := a.eval m) (y := a.eval k) (z := a.eval x) (by simp only [RepL]; exact ⟨_, _, rfl, hf.ev (hop' m (by simp [Op.operands])), _, _, rfl, hf.ev (hop' k (by simp [Op.operands])), _, _, rfl, hf.ev (hop' x (by simp [Op.operands])), rfl⟩) rfl h
  | insert t m k x => exact wp_of_mapUpdate (t := t) hM (x := a.eval m) (y := a.eval k) (z := a.eval x) (by simp only [RepL]; exact ⟨_, _, rfl, hf.ev (hop' m (by simp [Op.operands])), _, _, rfl, hf.ev (hop' k (by simp [Op.operands])), _, _, rfl, hf.ev (hop' x (by simp [Op.operands])), rfl⟩) rfl h
  | _ => exact wp_of_val hM hf hop h
def gval (ops : Array Oper) (f : Fm) (o : Oper) : Option Bool := match o.guard with
  | none => some true
  | some (j, want) => match (ops[j]?).bind (·.dst) with
    | some t => match f t with
      | .v (.bool b) => some (b == want)
      | .tup [] => some false
      | _ => none
    | none => none
theorem dwanted_iff {ops : Array Oper} {o : Oper} {y n : Prop} : dwanted ops f o y n ↔ ∃ g, gval ops f o = some g ∧ (g = true → y) ∧ (g = false → n) := by
  unfold dwanted gval
  cases o.guard with
  | none => simp
  | some p =>
    obtain ⟨j, want⟩ := p
    simp only
    cases (ops[j]?).bind (·.dst) with
    | none => simp
    | some t =>
      simp only
      generalize f t = x
      cases x with
      | v u => cases u with
        | bool b => cases b <;> cases want <;> simp
        | _ => simp
      | tup l => cases l <;> simp
      | _ => simp
def operOk (n : Nat) (ops : Array Oper) (o : Oper) : Bool := opsOk n o.op && match o.guard with
  | none => true
  | some (j, _) => match (ops[j]?).bind (·.dst) with
    | some t => Nat.blt t n
    | none => true
theorem gval_spec (hf : RepF P w η (Fix P S η) f a) {ops : Array Oper} {o : Oper} (hok : operOk a.tmps.size ops o = true) {g : Bool} (h : gval ops f o = some g) : Region.wanted o (yielded ops a.tmps) = g := by
  simp only [operOk, Bool.and_eq_true] at hok
  obtain ⟨_, hok⟩ := hok
  unfold gval at h
  unfold Region.wanted
  cases hg : o.guard with
  | none => rw [hg] at h; simpa using h
  | some p =>
    obtain ⟨j, want⟩ := p
    rw [hg] at h hok
    simp only at h hok ⊢
    cases hd : (ops[j]?).bind (·.dst) with
    | none => rw [hd] at h; cases h
    | some t =>
      rw [hd] at h hok
      simp only at h hok
      have hlt : t < a.tmps.size := by simpa [Nat.blt_eq] using hok
      have hr := hf t hlt
      have hget : a.tmps[t]? = some (a.tmps.getD t undef) := by simp [hlt]
      split at h
      · rename_i b hb
        rw [hb] at hr
        simp only [Rep] at hr
        injection h with h
        rw [hr] at hget
        simp only [yielded, hd, Option.bind_some, hget]
        rw [← h]
        cases b <;> cases want <;> rfl
      · rename_i hb
        rw [hb] at hr
        simp only [Rep, RepL] at hr
        obtain ⟨vs, hr, rfl⟩ := hr
        injection h with h
        rw [hr] at hget
        simp only [yielded, hd, Option.bind_some, hget]
        rw [← h]
        rfl
      · cases h
theorem repL_bv {X : Nat → Nat → Prop} : ∀ {l : List UInt8} {vs : List Value}, RepL P w η X (l.map bD) vs → vs = l.map bv
  | [], vs, h => by simpa [RepL] using h
  | x :: l, vs, h => by
    simp only [List.map_cons, RepL] at h
    obtain ⟨u, us, rfl, h1, h2⟩ := h
    rw [repL_bv h2]
    simp only [bD, Rep] at h1
    rw [h1]; rfl
theorem flat_bv : ∀ bs : List UInt8, (bs.map bv).flatMap (fun v => v.cells.toList) = bs.map bv
  | [] => rfl
  | x :: bs => by
    simp only [List.map_cons, List.flatMap_cons]
    rw [flat_bv bs]
    rfl
theorem dops_sound_n {ops : Array Oper} {Q : Fm → St → Prop} {Q' : Exit → Act → World → Prop} : ∀ (n : Nat) (l : List Oper) {S : St} {η : Names} {w : World} {f : Fm} {a : Act}, l.length ≤ n → (∀ o ∈ l, operOk a.tmps.size ops o = true) → Mem P base S η w → RepF P w η (Fix P S η) f a → dops P ops Q l f S →
    (∀ f' S' η' w' a', Q f' S' → Goes P base S η w S' η' w' → RepF P w' η' (Fix P S' η') f' a' → a'.tmps.size = a.tmps.size → a'.defers = a.defers → Q' .normal a' w') → wpList P ops Q' l a w
  | _, [], S, η, w, f, a, _, _, hM, hf, h, hq => hq f S η w a h (Goes.refl hM) hf rfl rfl
  | 0, o :: l, S, η, w, f, a, hln, hok, hM, hf, h, hq => absurd hln (by simp)
  | n + 1, o :: l, S, η, w, f, a, hln, hok, hM, hf, h, hq => by
    simp only [List.length_cons] at hln
    have ho := hok o (by simp)
    have size_put : ∀ (a : Act) (dst : Option Tmp) (v : Value), (a.put dst v).tmps.size = a.tmps.size := fun a dst v => by cases dst <;> simp [Act.put]
    have def_put : ∀ (a : Act) (dst : Option Tmp) (v : Value), (a.put dst v).defers = a.defers := fun a dst v => by cases dst <;> rfl
    rw [dops_cons] at h
    obtain ⟨g, hg, hy, hno⟩ := dwanted_iff.1 h
    have hwt := gval_spec hf ho hg
    have hop : opsOk a.tmps.size o.op = true := by simp only [operOk, Bool.and_eq_true] at ho; exact ho.1
    unfold wpList
    cases g with
    | true =>
      rw [if_pos hwt]
      refine .inl ?_
      rcases dbs_or (hy rfl) with hA | hB
      · have := dop_sound (Q := Q') hM hf hop hA
        refine Oper.wp_mono (fun a' w' ⟨d, v, S', η', k1, k2, k3, k4⟩ => ?_) this
        subst k4
        exact dops_sound_n n l (by omega) (fun o' ho' => by rw [size_put]; exact hok o' (by simp [ho'])) k2.mem ((k2.repF hf).put k3 o.dst) k1 (fun f' S'' η'' w'' a'' g1 g2 g3 g4 g5 => hq f' S'' η'' w'' a'' g1 (k2.trans g2) g3 (g4.trans (size_put _ _ _)) (g5.trans (def_put _ _ _)))
      · unfold dlit at hB
        split at hB
        · rename_i t m ps o2 r2 hopq
          obtain ⟨e, bs, k, b1, b2, b3, b4, b5, b6, b7, hdst, hop2, hw2⟩ := hB
          have ho2 := hok o2 (by simp)
          have hpe := opsOk_spec hop
          rw [hopq] at hpe
          have hr := parts_rep hf ps.toList fun p hp => hpe p.2 (by simp only [Op.operands]; simp; exact ⟨p.1, by simpa using hp⟩)
          rw [b7] at hr
          have hvs := repL_bv hr
          have hlen : bs.length = m := by
            have h1 := congrArg List.length b6
            have h2 := congrArg List.length b7
            simp only [List.length_map, List.length_range] at h1 h2
            omega
          have hrun1 := run_buildSlice_at (w := w) b1 b3 m (ps.map fun (i, x) => (i, a.eval x)) (by simpa [Function.comp_def] using b6) (fun q hq => by
            simp only [Array.toList_map, List.mem_map] at hq
            obtain ⟨p, hp, rfl⟩ := hq
            have hm : a.eval p.2 ∈ ps.toList.map fun p => a.eval p.2 := List.mem_map.2 ⟨p, hp, rfl⟩
            rw [hvs] at hm
            obtain ⟨u, _, hu⟩ := List.mem_map.1 hm
            show (a.eval p.2).cells.size = _
            rw [← hu, b4]; rfl) (by rw [b4]; omega)
          have hfl : ((ps.map fun (i, x) => (i, a.eval x)).toList.flatMap fun q => q.2.cells.toList) = bs.map bv := by
            have h1 : ((ps.map fun (i, x) => (i, a.eval x)).toList.flatMap fun q => q.2.cells.toList) = (ps.toList.map fun p => a.eval p.2).flatMap fun v => v.cells.toList := by simp [List.flatMap_map]
            rw [h1, hvs, flat_bv]
          rw [hfl] at hrun1
          have G1 := goes_new hM (.cells (bs.map bv).toArray e)
          have G2 := goes_new hM (.cells (bs.map bv).toArray e ((bs.map bv).toArray.size, (bs.map bv).toArray.size + 1))
          have hR2 := rep_lit hM bs e (by omega)
          have hR1 : Rep P (w.alloc (.cells (bs.map bv).toArray e)) η (Fix P S η) (.sl .no (bs.map bD)) (.slice (some ⟨w.heap.size, 0, none⟩) bs.length bs.length) := rep_lit0 hM bs e (by omega)
          rw [hlen] at hR1 hR2
          have e1 : (execOp a.eval o).run P w = .ok (.value (.slice (some ⟨w.heap.size, 0, none⟩) m m)) (w.alloc (.cells (bs.map bv).toArray e)) := by
            unfold execOp
            rw [hopq]
            simp only
            rw [Sem.run_bind, hrun1]
            rfl
          refine wp_value e1 ?_
          have hf1 := (G1.repF hf).put hR1 o.dst
          obtain ⟨g2, hg2, hy2, hn2⟩ := dwanted_iff.1 hw2
          have ho2' : operOk (a.put o.dst (.slice (some ⟨w.heap.size, 0, none⟩) m m)).tmps.size ops o2 = true := by rw [size_put]; exact ho2
          have hwt2 := gval_spec hf1 ho2' hg2
          cases g2 with
          | false => exact (hn2 rfl).elim
          | true =>
            unfold wpList
            rw [if_pos hwt2]
            refine .inl ?_
            have hk : k < a.tmps.size := by
              have h1 : opsOk a.tmps.size o2.op = true := by simp only [operOk, Bool.and_eq_true] at ho2; exact ho2.1
              rw [hop2] at h1
              have := opsOk_spec h1 (.tmp k) (by simp [Op.operands])
              simpa [opnOk, Nat.blt_eq] using this
            have hev : (a.put o.dst (.slice (some ⟨w.heap.size, 0, none⟩) m m)).eval (.tmp k) = .slice (some ⟨w.heap.size, 0, none⟩) m m := by
              rw [hdst]
              simp [Act.put, Act.eval, hk]
            have e2 : (execOp (a.put o.dst (.slice (some ⟨w.heap.size, 0, none⟩) m m)).eval o2).run P (w.alloc (.cells (bs.map bv).toArray e)) = .ok (.value (.slice (some ⟨w.heap.size, 0, none⟩) m m)) (w.alloc (.cells (bs.map bv).toArray e ((bs.map bv).toArray.size, (bs.map bv).toArray.size + 1))) := by
              unfold execOp
              rw [hop2]
              simp only [hev]
              rw [Sem.run_bind, Go.Lib.run_convert_bytes_const w t e _ m m (elT_spec b1) (u8T_spec b2)]
              rfl
            refine wp_value e2 ?_
            have hf2 := ((G2.repF hf).put hR2 o.dst).put hR2 o2.dst
            exact dops_sound_n n r2 (by simp only [List.length_cons] at hln; omega) (fun o' ho' => by rw [size_put, size_put]; exact hok o' (by simp [ho'])) G2.mem hf2 (hy2 rfl) (fun f' S'' η'' w'' a'' g1 g2 g3 g4 g5 => hq f' S'' η'' w'' a'' g1 (G2.trans g2) g3 (g4.trans ((size_put _ _ _).trans (size_put _ _ _))) (g5.trans ((def_put _ _ _).trans (def_put _ _ _))))
        · exact hB.elim
    | false =>
      rw [if_neg (by rw [hwt]; simp)]
      have hu : Rep P w η (Fix P S η) undefD undef := by simp only [Rep, RepL]; exact ⟨[], rfl, rfl⟩
      exact dops_sound_n n l (by omega) (fun o' ho' => by rw [size_put]; exact hok o' (by simp [ho'])) hM (hf.put hu o.dst) (hno rfl) (fun f' S'' η'' w'' a'' g1 g2 g3 g4 g5 => hq f' S'' η'' w'' a'' g1 g2 g3 (g4.trans (size_put _ _ _)) (g5.trans (def_put _ _ _)))
theorem dops_sound {ops : Array Oper} {Q : Fm → St → Prop} {Q' : Exit → Act → World → Prop} (l : List Oper) {S : St} {η : Names} {w : World} {f : Fm} {a : Act} (h1 : ∀ o ∈ l, operOk a.tmps.size ops o = true) (h2 : Mem P base S η w) (h3 : RepF P w η (Fix P S η) f a) (h4 : dops P ops Q l f S)
    (h5 : ∀ f' S' η' w' a', Q f' S' → Goes P base S η w S' η' w' → RepF P w' η' (Fix P S' η') f' a' → a'.tmps.size = a.tmps.size → a'.defers = a.defers → Q' .normal a' w') : wpList P ops Q' l a w := dops_sound_n l.length l (Nat.le_refl _) h1 h2 h3 h4 h5

/-! ### A region that draws its order -/
def dquietR (P : Program) (f : Fm) (S : St) (ty : TypeId) (op : Op) (d : D) : Prop := match op with
  | .call ⟨.value x, args, _⟩ => match ev f x with
    | .fn (.func g) fs cs => DSt P g (fs ++ args.toList.map (ev f) ++ cs) S d
    | _ => False
  | op => onVal2 (dnew P f S op) (dval P f S ty op) fun d' => d' = d
theorem onVal_iff {o : Option (Prop × D)} {K : D → Prop} : onVal o K ↔ ∃ d, onVal o (fun d' => d' = d) ∧ K d := by
  cases o with
  | some p => obtain ⟨c, d⟩ := p; exact ⟨fun h => ⟨d, ⟨h.1, rfl⟩, h.2⟩, fun ⟨_, ⟨h1, h2⟩, h3⟩ => ⟨h1, h2 ▸ h3⟩⟩
  | none => exact ⟨fun h => h.elim, fun ⟨_, h, _⟩ => h.elim⟩
theorem onVal2_iff {o o' : Option (Prop × D)} {K : D → Prop} : onVal2 o o' K ↔ ∃ d, onVal2 o o' (fun d' => d' = d) ∧ K d := by
  cases o with
  | some p => obtain ⟨c, d⟩ := p; exact ⟨fun h => ⟨d, ⟨h.1, rfl⟩, h.2⟩, fun ⟨_, ⟨h1, h2⟩, h3⟩ => ⟨h1, h2 ▸ h3⟩⟩
  | none => exact onVal_iff
theorem dquiet_iff {f : Fm} {S : St} {ty : TypeId} {op : Op} {K : D → Prop} : dquiet P f S ty op K ↔ ∃ d, dquietR P f S ty op d ∧ K d := by
  unfold dquiet dquietR
  cases op with
  | call cl =>
    obtain ⟨callee, args, ts⟩ := cl
    cases callee with
    | value x =>
      dsimp only
      generalize ev f x = y
      cases y with
      | fn g fs cs => cases g <;> simp
      | _ => simp
    | builtin b => exact onVal2_iff
    | invoke r m => exact onVal2_iff
  | _ => exact onVal2_iff
theorem dquiet_sound (hM : Mem P base S η w) (hf : RepF P w η (Fix P S η) f a) {o : Oper} (hop : opsOk a.tmps.size o.op = true) {d : D} {Q : Exit → Act → World → Prop}
    (h : dquietR P f S o.type o.op d) : o.wp P a w (Left P base S η w a o.dst fun d' S' => d' = d ∧ S' = S) Q := by
  have hop' := opsOk_spec hop
  obtain ⟨dst, op, ty, pos, after, guard⟩ := o
  unfold dquietR at h
  simp only at h
  split at h
  · rename_i x args ts
    split at h
    · rename_i g fs cs hx
      exact wp_of_call hM hf dst x args ts ty pos after guard hop' hx (h S (Nat.le_refl _) fun _ _ h => h)
    · exact h.elim
  · have up : ∀ o : Option (Prop × D), onVal o (fun d' => d' = d) → onVal o (fun d' => d' = d ∧ S = S) := fun o ho => by
      cases o with
      | some p => exact ⟨ho.1, ho.2, rfl⟩
      | none => exact ho
    cases hd : dnew P f S op with
    | some p =>
      rw [hd] at h
      refine wp_of_new hM hf hop ?_
      show onVal (dnew P f S op) _
      rw [hd]
      exact up (some p) h
    | none =>
      rw [hd] at h
      exact wp_of_val hM hf hop (up _ h)
theorem ev_lists {f f' : Fm} {l : List Operand} (h : ∀ x ∈ l, ev f x = ev f' x) : l.map (ev f) = l.map (ev f') := List.map_congr_left h
theorem bnd_congr {f f' : Fm} {o : Option Operand} {d : Int} (h : ∀ x, o = some x → ev f x = ev f' x) : bnd f o d = bnd f' o d := by
  cases o with
  | none => rfl
  | some x => simp only [bnd, h x rfl]
theorem dval_congr {f f' : Fm} {S : St} {ty : TypeId} {op : Op} (h : ∀ x ∈ op.operands, ev f x = ev f' x) : dval P f S ty op = dval P f' S ty op := by
  cases op with
  | slice t x lo hi mx =>
    have h1 := h x (by simp [Op.operands])
    have h2 : ∀ d, bnd f lo d = bnd f' lo d := fun d => bnd_congr fun y hy => h y (by simp [Op.operands, hy])
    have h3 : ∀ d, bnd f hi d = bnd f' hi d := fun d => bnd_congr fun y hy => h y (by simp [Op.operands, hy])
    cases mx with
    | none => simp only [dval, h1, h2, h3]
    | some mx =>
      have h4 : ∀ d, bnd f (some mx) d = bnd f' (some mx) d := fun d => bnd_congr fun y hy => h y (by injection hy with hy; subst hy; simp [Op.operands])
      simp only [dval, h1, h2, h3, h4]
  | makeFunc fn fs cs =>
    have h1 := ev_lists (l := fs.toList) fun x hx => h x (by simp only [Op.operands, Array.mem_append]; exact .inl (by simpa using hx))
    have h2 := ev_lists (l := cs.toList) fun x hx => h x (by simp only [Op.operands, Array.mem_append]; exact .inr (by simpa using hx))
    simp only [dval, h1, h2]
  | call c =>
    obtain ⟨callee, args, ts⟩ := c
    cases callee with
    | builtin b =>
      have h1 := ev_lists (l := args.toList) fun x hx => h x (by simp only [Op.operands, Call.operands, Array.mem_append]; exact .inr (by simpa using hx))
      simp only [dval, h1]
    | value x => rfl
    | invoke r m => rfl
  | pick c x y =>
    have h1 := h c (by simp [Op.operands])
    have h2 := h x (by simp [Op.operands])
    have h3 := h y (by simp [Op.operands])
    simp only [dval, h1, h2, h3]
  | move x => simp only [dval, h x (by simp [Op.operands])]
  | assign x => simp only [dval, h x (by simp [Op.operands])]
  | load t x => simp only [dval, h x (by simp [Op.operands])]
  | fieldAddr t x i => simp only [dval, h x (by simp [Op.operands])]
  | field t x i => simp only [dval, h x (by simp [Op.operands])]
  | indexAddr t x i => simp only [dval, h x (by simp [Op.operands]), h i (by simp [Op.operands])]
  | index t x i => simp only [dval, h x (by simp [Op.operands]), h i (by simp [Op.operands])]
  | extract x i => simp only [dval, h x (by simp [Op.operands])]
  | makeInterface t x => simp only [dval, h x (by simp [Op.operands])]
  | nilCheck x => simp only [dval, h x (by simp [Op.operands])]
  | binOp op t x y u => simp only [dval, h x (by simp [Op.operands]), h y (by simp [Op.operands])]
  | unOp op t x => simp only [dval, h x (by simp [Op.operands])]
  | convert s t x => simp only [dval, h x (by simp [Op.operands])]
  | _ => rfl
theorem dnew_congr {f f' : Fm} {S : St} {op : Op} (h : ∀ x ∈ op.operands, ev f x = ev f' x) : dnew P f S op = dnew P f' S op := by
  cases op with
  | buildSlice t n ps =>
    have h1 : (ps.toList.map fun p => ev f p.2) = ps.toList.map fun p => ev f' p.2 := List.map_congr_left fun p hp => h p.2 (by simp only [Op.operands]; simp; exact ⟨p.1, by simpa using hp⟩)
    simp only [dnew, h1]
  | build t ps =>
    have h1 : (ps.toList.map fun p => (p.1, ev f p.2)) = ps.toList.map fun p => (p.1, ev f' p.2) := List.map_congr_left fun p hp => by rw [h p.2 (by simp only [Op.operands]; simp; exact ⟨p.1, by simpa using hp⟩)]
    simp only [dnew, h1]
  | convert s t x => simp only [dnew, h x (by simp [Op.operands])]
  | call c =>
    obtain ⟨callee, args, ts⟩ := c
    cases callee with
    | builtin b =>
      have h1 := ev_lists (l := args.toList) fun x hx => h x (by simp only [Op.operands, Call.operands, Array.mem_append]; exact .inr (by simpa using hx))
      cases b <;> first | rfl | simp only [dnew, h1]
    | value x => rfl
    | invoke r m => rfl
  | _ => rfl
theorem dquietR_congr {f f' : Fm} {S : St} {ty : TypeId} {op : Op} {d : D} (h : ∀ x ∈ op.operands, ev f x = ev f' x) (hq : dquietR P f S ty op d) : dquietR P f' S ty op d := by
  unfold dquietR at *
  split at hq
  · rename_i x args ts
    have h1 := h x (by simp [Op.operands, Call.operands])
    have h2 := ev_lists (l := args.toList) fun x hx => h x (by simp only [Op.operands, Call.operands, Array.mem_append]; exact .inr (by simpa using hx))
    rw [← h1, ← h2]
    exact hq
  · rw [← dnew_congr h, ← dval_congr h]
    exact hq

theorem dval_add {f : Fm} {S : St} (hS : S.WF) (b : Ob) {ty : TypeId} {op : Op} {p : Prop × D} (h : dval P f S ty op = some p) : dval P f (S.add b) ty op = some p := by
  cases op with
  | load t x =>
    simp only [dval] at h ⊢
    split at h
    · rename_i k off hk
      split at h
      · rename_i t' cs hb
        have hlt : k < S.next := by
          rcases Nat.lt_or_ge k S.next with h' | h'
          · exact h'
          · rw [hS k h'] at hb; cases hb
        simp only [St.add]
        rw [if_neg (by omega), hb]
        exact h
      · cases h
    · exact h
    · exact h
    · cases h
  | slice t x lo hi mx => cases mx <;> exact h
  | _ => exact h
theorem dquietR_add {f : Fm} {S : St} (hS : S.WF) (b : Ob) {ty : TypeId} {op : Op} {d : D} (h : dquietR P f S ty op d) : dquietR P f (S.add b) ty op d := by
  have hnew : dnew P f (S.add b) op = dnew P f S op := by cases op <;> rfl
  unfold dquietR at *
  split at h
  · rename_i x args ts
    split at h
    · rename_i g fs cs hx
      exact fun T h1 h2 => h T (Nat.le_trans (Nat.le_succ _) h1) fun j o ho => h2 j o (by
        show (if j = S.next then _ else S.ob j) = _
        by_cases e : j = S.next
        · subst e; rw [hS S.next (Nat.le_refl _)] at ho; cases ho
        · rw [if_neg e, ho])
    · exact h.elim
  · rw [hnew]
    cases hd : dnew P f S op with
    | some p => rw [hd] at h; exact h
    | none =>
      rw [hd] at h
      cases hv : dval P f S ty op with
      | none =>
        have h' : onVal2 none (dval P f S ty op) (fun d' => d' = d) := h
        rw [hv] at h'
        exact h'.elim
      | some p =>
        have h' : onVal2 none (dval P f S ty op) (fun d' => d' = d) := h
        rw [hv] at h'
        rw [dval_add hS b hv]
        exact h'
theorem dquietR_after {f : Fm} {S : St} (hS : S.WF) (u : Option Ob) {ty : TypeId} {op : Op} {d : D} (h : dquietR P f S ty op d) : dquietR P f (after S u) ty op d := by
  cases u with
  | none => exact h
  | some b => exact dquietR_add hS b h
/-! Any order of a region's head -/
section
variable {ops : Array Oper} {md : Region.Mode}
def newOb (P : Program) (f : Fm) : Op → Option (Prop × Ob)
  | .alloc t => some (zeroOk P t = true, .box t (zeroD P t))
  | .box t x => some ((ev f x).okCell = true, .box t (ev f x).cells)
  | _ => none
def Yd (P : Program) (ops : Array Oper) (S : St) (o : Oper) (d : D) (u : Option Ob) (f : Fm) : Prop :=
  (u = none ∧ ((gval ops f o = some true ∧ dquietR P f S o.type o.op d) ∨ (gval ops f o = some false ∧ d = undefD))) ∨
  (o.guard = none ∧ ∃ c b, newOb P f o.op = some (c, b) ∧ c ∧ u = some b ∧ d = .loc S.next 0)
def hOp (P : Program) (ops : Array Oper) (S : St) (i : Nat) (K : Fm → Option Ob → Prop) (f : Fm) (u : Option Ob) : Prop := match ops[i]? with
  | none => K f u
  | some o => ∃ d u', Yd P ops S o d u' f ∧ (u'.isSome = true → u = none) ∧ K (put f o.dst d) (u'.or u)
def hAny (P : Program) (md : Region.Mode) (ops : Array Oper) (S : St) (Q : Fm → Option Ob → Prop) : Nat → Array Bool → Fm → Option Ob → Prop
  | 0, L, f, u => Region.ready md ops L = [] ∧ Q f u
  | n + 1, L, f, u => (Region.ready md ops L = [] → Q f u) ∧ ∀ i ∈ Region.ready md ops L, hOp P ops S i (hAny P md ops S Q n (L.setIfInBounds i true)) f u
theorem hOp_mono {i : Nat} {K K' : Fm → Option Ob → Prop} {f : Fm} {u : Option Ob} (h : ∀ f u, K f u → K' f u) (hh : hOp P ops S i K f u) : hOp P ops S i K' f u := by
  unfold hOp at *
  split at hh
  · exact h _ _ hh
  · obtain ⟨d, u', h1, h2, h3⟩ := hh
    exact ⟨d, u', h1, h2, h _ _ h3⟩
theorem put_comm (f : Fm) {x y : Option Tmp} (d e : D) (h : ∀ t, x = some t → y ≠ some t) : put (put f x d) y e = put (put f y e) x d := by
  cases x with
  | none => rfl
  | some t => cases y with
    | none => rfl
    | some u =>
      have hne : t ≠ u := fun e => h t rfl (e ▸ rfl)
      funext i
      simp only [put]
      cases h1 : Nat.beq i t <;> cases h2 : Nat.beq i u <;> simp
      exact absurd ((Nat.eq_of_beq_eq_true h1).symm.trans (Nat.eq_of_beq_eq_true h2)) hne
theorem put_same {f : Fm} {x : Option Tmp} {d : D} {t : Nat} (h : x ≠ some t) : put f x d t = f t := by
  cases x with
  | none => rfl
  | some u =>
    simp only [put]
    cases hb : Nat.beq t u with
    | false => rfl
    | true => exact absurd (by rw [Nat.eq_of_beq_eq_true hb]) h
theorem ev_put {f : Fm} {x : Option Tmp} {d : D} {y : Operand} (h : ∀ t, y = .tmp t → x ≠ some t) : ev (put f x d) y = ev f y := by
  cases y with
  | tmp t => exact put_same (h t rfl)
  | _ => rfl
theorem newOb_congr {f f' : Fm} {op : Op} (h : ∀ x ∈ op.operands, ev f x = ev f' x) : newOb P f op = newOb P f' op := by
  cases op with
  | box t x => simp only [newOb, h x (by simp [Op.operands])]
  | _ => rfl
theorem Yd_put {o : Oper} {d e : D} {u : Option Ob} {f : Fm} {x : Option Tmp} (h : ∀ t, x = some t → t ∉ o.looksAt ops) : Yd P ops S o d u (put f x e) ↔ Yd P ops S o d u f := by
  have hev : ∀ y ∈ o.op.operands, ev (put f x e) y = ev f y := fun y hy => ev_put fun t ht hx => h t hx (by
    subst ht
    simp only [Oper.looksAt, List.mem_append, List.mem_filterMap]
    exact .inl ⟨.tmp t, by simpa using hy, rfl⟩)
  have hg : gval ops (put f x e) o = gval ops f o := by
    unfold gval
    cases hgd : o.guard with
    | none => rfl
    | some p =>
      obtain ⟨j, want⟩ := p
      simp only
      cases hd : (ops[j]?).bind (·.dst) with
      | none => rfl
      | some t =>
        simp only
        rw [put_same (fun hx => h t hx (by simp only [Oper.looksAt, hgd, hd, List.mem_append]; exact .inr (by simp)))]
  unfold Yd
  rw [hg, newOb_congr (P := P) hev]
  exact ⟨fun h => h.imp (fun h => ⟨h.1, h.2.imp (fun h => ⟨h.1, dquietR_congr hev h.2⟩) id⟩) id, fun h => h.imp (fun h => ⟨h.1, h.2.imp (fun h => ⟨h.1, dquietR_congr (fun y hy => (hev y hy).symm) h.2⟩) id⟩) id⟩
theorem hOp_put {j : Nat} {oi oj : Oper} {v : D} {ui : Option Ob} (hj : ops[j]? = some oj) (hap : oi.apart ops oj = true) {K : Fm → Option Ob → Prop} {f : Fm} {u : Option Ob} (hy : Yd P ops S oi v ui f) (hu : ui.isSome = true → u = none) (h : hOp P ops S j K (put f oi.dst v) (ui.or u)) :
    hOp P ops S j (fun f' u' => Yd P ops S oi v ui f' ∧ (ui.isSome = true → u' = none) ∧ K (put f' oi.dst v) (ui.or u')) f u := by
  obtain ⟨h1, h2, h3⟩ := Oper.apart_spec hap
  unfold hOp at *
  simp only [hj] at *
  obtain ⟨d, uj, hd, hk, hK⟩ := h
  refine ⟨d, uj, (Yd_put h1).1 hd, fun e => ?_, (Yd_put h3).2 hy, fun e => ?_, ?_⟩
  · have := hk e
    cases ui with
    | none => exact this
    | some b => cases this
  · have hu' := hu e
    cases uj with
    | none => exact hu'
    | some b =>
      have := hk rfl
      cases ui with
      | none => cases e
      | some b' => cases this
  · have e : uj.or (ui.or u) = ui.or (uj.or u) := by
      cases ui with
      | none => cases uj <;> rfl
      | some b =>
        cases uj with
        | none => rfl
        | some b' => have := hk rfl; cases this
    rw [← put_comm f v d h2, ← e]
    exact hK
theorem hAny_first {Q : Fm → Option Ob → Prop} {i : Nat} {oi : Oper} {v : D} {ui : Option Ob} (hi : ops[i]? = some oi) :
    ∀ (fuel : Nat) (L : Array Bool) (f : Fm) (u : Option Ob),
      (∀ j oj, ops[j]? = some oj → j ≠ i → L.getD j true = false → (∀ e ∈ oj.after, Region.binds md e = true → e.on ≠ i) → oi.apart ops oj = true) →
      i ∈ Region.ready md ops L → Yd P ops S oi v ui f → (ui.isSome = true → u = none) → hAny P md ops S Q fuel (L.setIfInBounds i true) (put f oi.dst v) (ui.or u) → hAny P md ops S Q (fuel + 1) L f u := by
  have here : ∀ {K : Fm → Option Ob → Prop} {f : Fm} {u : Option Ob}, Yd P ops S oi v ui f → (ui.isSome = true → u = none) → K (put f oi.dst v) (ui.or u) → hOp P ops S i K f u := fun hy hu hk => by
    unfold hOp; simp only [hi]; exact ⟨v, ui, hy, hu, hk⟩
  intro fuel
  induction fuel with
  | zero =>
    intro L f u _ hr hy hu H
    refine ⟨fun h => (by rw [h] at hr; cases hr), fun j hj => ?_⟩
    by_cases hji : j = i
    · subst hji; exact here hy hu H
    · have := ready_mono hj hji
      rw [H.1] at this
      cases this
  | succ fuel ih =>
    intro L f u hfree hr hy hu H
    refine ⟨fun h => (by rw [h] at hr; cases hr), fun j hj => ?_⟩
    by_cases hji : j = i
    · subst hji; exact here hy hu H
    · have h1 := H.2 j (ready_mono hj hji)
      obtain ⟨hjun, oj, hoj, hall⟩ := mem_ready.1 hj
      have hnot : ∀ e ∈ oj.after, Region.binds md e = true → e.on ≠ i := fun e he hb heq => by
        have h1 := hall e he hb
        have h0 := (mem_ready.1 hr).1
        rw [heq] at h1
        rcases Nat.lt_or_ge i L.size with h' | h'
        · simp [h'] at h0 h1; rw [h0] at h1; cases h1
        · simp [Array.getElem?_eq_none h'] at h1
      have h2 := hOp_put hoj (hfree j oj hoj hji hjun hnot) hy hu h1
      have hfree' : ∀ k ok, ops[k]? = some ok → k ≠ i → (L.setIfInBounds j true).getD k true = false →
          (∀ e ∈ ok.after, Region.binds md e = true → e.on ≠ i) → oi.apart ops ok = true := fun k ok hk hki hun hno => by
        refine hfree k ok hk hki ?_ hno
        by_cases hjk : j = k
        · subst hjk; exact hjun
        · rw [getD_set_ne true hjk] at hun; exact hun
      refine hOp_mono (fun a' u' h3 => ih (L.setIfInBounds j true) a' u' hfree' (ready_mono hr (Ne.symm hji)) h3.1 h3.2.1 ?_) h2
      rw [Array.setIfInBounds_comm _ _ hji]
      exact h3.2.2
theorem hop_iff {f : Fm} {u : Option Ob} {ty : TypeId} {op : Op} {K : D → Option Ob → Prop} (h : hop P f S u ty op K) : (∃ d, dquietR P f S ty op d ∧ K d u) ∨ (u = none ∧ ∃ c b, newOb P f op = some (c, b) ∧ c ∧ K (.loc S.next 0) (some b)) := by
  unfold hop at h
  split at h
  · exact .inr ⟨h.1, _, _, rfl, h.2.1, h.2.2⟩
  · exact .inr ⟨h.1, _, _, rfl, h.2.1, h.2.2⟩
  · exact .inl (dquiet_iff.1 h)
theorem hAny_lex {Q : Fm → St → Prop} : ∀ (l : List Oper) (k : Nat) (L : Array Bool) (f : Fm) (u : Option Ob), (∀ j, l[j]? = ops[k + j]?) →
    Region.lexFrom md ops l.length k L = true → dhead P ops S Q l f u → hAny P md ops S (fun f u => Q f (after S u)) l.length L f u
  | [], _, _, _, _, _, hB, h => ⟨by simpa [Region.lexFrom] using hB, h⟩
  | o :: l, k, L, f, u, hl, hB, h => by
    have h0 : ops[k]? = some o := by simpa using (hl 0).symm
    simp only [List.length_cons, Region.lexFrom, Bool.and_eq_true] at hB
    obtain ⟨⟨hr, hf⟩, hB'⟩ := hB
    obtain ⟨v, u', hv, hu, hK⟩ : ∃ v u', Yd P ops S o v u' f ∧ (u'.isSome = true → u = none) ∧ dhead P ops S Q l (put f o.dst v) (u'.or u) := by
      unfold dhead at h
      cases hg : o.guard with
      | none =>
        rw [hg] at h
        rcases hop_iff h with ⟨d, h1, h2⟩ | ⟨rfl, c, b, h1, h2, h3⟩
        · exact ⟨d, none, .inl ⟨rfl, .inl ⟨by unfold gval; rw [hg], h1⟩⟩, (fun e => by cases e), h2⟩
        · exact ⟨_, some b, .inr ⟨hg, c, b, h1, h2, rfl, rfl⟩, fun _ => rfl, h3⟩
      | some p =>
        rw [hg] at h
        obtain ⟨g, hg', hy, hn⟩ := dwanted_iff.1 h
        cases g with
        | true =>
          obtain ⟨d, h1, h2⟩ := dquiet_iff.1 (hy rfl)
          exact ⟨d, none, .inl ⟨rfl, .inl ⟨hg', h1⟩⟩, (fun e => by cases e), h2⟩
        | false => exact ⟨undefD, none, .inl ⟨rfl, .inr ⟨hg', rfl⟩⟩, (fun e => by cases e), hn rfl⟩
    exact hAny_first h0 l.length L f u (Region.free_spec h0 hf) (by simpa using hr) hv hu
      (hAny_lex l (k + 1) _ _ _ (fun j => by have := hl (j + 1); simpa [Nat.add_assoc, Nat.add_comm 1 j] using this) hB' hK)
theorem size_put (a : Act) (dst : Option Tmp) (v : Value) : (a.put dst v).tmps.size = a.tmps.size := by cases dst <;> simp [Act.put]
theorem defers_put (a : Act) (dst : Option Tmp) (v : Value) : (a.put dst v).defers = a.defers := by cases dst <;> rfl
theorem wpAny_of_head {Q : Fm → Option Ob → Prop} {Q' : Exit → Act → World → Prop} {n : Nat} (hS : S.WF) (hok : ∀ (j : Nat) (o : Oper), ops[j]? = some o → operOk n ops o = true) : ∀ (fuel : Nat) (L : Array Bool) {η : Names} {w : World} {f : Fm} {u : Option Ob} {a : Act}, Mem P base (after S u) η w → RepF P w η (Fix P (after S u) η) f a → a.tmps.size = n → hAny P md ops S Q fuel L f u →
    (∀ f' u' η' w' a', Q f' u' → Goes P base (after S u) η w (after S u') η' w' → RepF P w' η' (Fix P (after S u') η') f' a' → a'.tmps.size = n → a'.defers = a.defers → Q' .normal a' w') → wpAny P md ops Q' fuel L a w
  | 0, _, η, w, f, u, a, hM, hf, hn, h, hq => ⟨h.1, hq f u η w a h.2 (Goes.refl hM) hf hn rfl⟩
  | fuel + 1, L, η, w, f, u, a, hM, hf, hn, h, hq => by
    refine ⟨fun h0 => hq f u η w a (h.1 h0) (Goes.refl hM) hf hn rfl, fun i hi => ?_⟩
    have h2 := h.2 i hi
    have goOn : ∀ {dst : Option Tmp} {d : D} {v : Value} {u1 : Option Ob} {η1 : Names} {w1 : World}, hAny P md ops S Q fuel (L.setIfInBounds i true) (put f dst d) u1 → Goes P base (after S u) η w (after S u1) η1 w1 → Rep P w1 η1 (Fix P (after S u1) η1) d v → wpAny P md ops Q' fuel (L.setIfInBounds i true) (a.put dst v) w1 := fun {dst d v u1 η1 w1} k1 k2 k3 =>
      wpAny_of_head hS hok fuel _ k2.mem ((k2.repF hf).put k3 dst) (by rw [size_put]; exact hn) k1 (fun f' u' η' w' a' g1 g2 g3 g4 g5 => hq f' u' η' w' a' g1 (k2.trans g2) g3 g4 (by rw [g5, defers_put]))
    unfold hOp at h2
    unfold wpOp
    cases ho : ops[i]? with
    | none =>
      rw [ho] at h2
      exact wpAny_of_head hS hok fuel _ hM hf hn h2 hq
    | some o =>
      rw [ho] at h2
      simp only at h2 ⊢
      have hoo := hok i o ho
      rw [← hn] at hoo
      obtain ⟨d, u', hy, hu, hK⟩ := h2
      have hop : opsOk a.tmps.size o.op = true := by simp only [operOk, Bool.and_eq_true] at hoo; exact hoo.1
      rcases hy with ⟨rfl, hy⟩ | ⟨hg, c, b, h1, h2, rfl, rfl⟩
      · rcases hy with ⟨hg, hr⟩ | ⟨hg, rfl⟩
        · rw [if_pos (gval_spec hf hoo hg)]
          refine .inl ?_
          refine Oper.wp_mono (fun a' w' ⟨d', v, S', η', k1, k2, k3, k4⟩ => ?_) (dquiet_sound (Q := Q') hM hf hop (dquietR_after hS u hr))
          obtain ⟨rfl, rfl⟩ := k1
          subst k4
          exact goOn hK k2 k3
        · rw [if_neg (by rw [gval_spec hf hoo hg]; simp)]
          exact goOn hK (Goes.refl hM) (by simp only [Rep, RepL]; exact ⟨[], rfl, rfl⟩)
      · obtain rfl := hu rfl
        rw [if_pos (by unfold Region.wanted; rw [hg])]
        refine .inl ?_
        have hd : dop P f S o.type o.op (fun d' S' => d' = .loc S.next 0 ∧ S' = S.add b) := by
          cases hop' : o.op with
          | alloc t =>
            rw [hop'] at h1
            simp only [newOb] at h1
            injection h1 with h1
            injection h1 with h1 h1'
            subst h1 h1'
            exact ⟨h2, rfl, rfl⟩
          | box t x =>
            rw [hop'] at h1
            simp only [newOb] at h1
            injection h1 with h1
            injection h1 with h1 h1'
            subst h1 h1'
            exact ⟨h2, rfl, rfl⟩
          | _ => rw [hop'] at h1; cases h1
        refine Oper.wp_mono (fun a' w' ⟨d', v, S', η', k1, k2, k3, k4⟩ => ?_) (dop_sound (Q := Q') hM hf hop hd)
        obtain ⟨rfl, rfl⟩ := k1
        subst k4
        exact goOn hK k2 k3
end
end
end Go.Proofs.YtonncfminojejaaGreatDoor

namespace Go.Proofs.YtonncfminojejaaGreatDoor
open Go.RowKit

theorem onVal_mono {o : Option (Prop × D)} {K K' : D → Prop} (h : ∀ d, K d → K' d) (ho : onVal o K) : onVal o K' := by
  cases o with
  | some p => exact ⟨ho.1, h _ ho.2⟩
  | none => exact ho
theorem dop_mono {P : Program} {f : Fm} {S : St} {ty : TypeId} {op : Op} {K K' : D → St → Prop} (h : ∀ d S, K d S → K' d S) (ho : dop P f S ty op K) : dop P f S ty op K' := by
  cases op with
  | alloc t => simp only [dop] at *; exact ⟨ho.1, h _ _ ho.2⟩
  | box t x => simp only [dop] at *; exact ⟨ho.1, h _ _ ho.2⟩
  | store t x y =>
    simp only [dop] at *
    split at ho
    · split at ho
      · exact ⟨ho.1, ho.2.1, ho.2.2.1, ho.2.2.2.1, h _ _ ho.2.2.2.2⟩
      · exact ho
    · exact ho
  | call cl =>
    obtain ⟨callee, args, ts⟩ := cl
    cases callee with
    | value x =>
      simp only [dop] at *
      split at ho
      · exact ho.mono h
      · exact ho
    | invoke r m =>
      simp only [dop] at *
      split at ho
      · obtain ⟨g, d', h1, h2⟩ := ho
        exact ⟨g, d', h1, h2.mono h⟩
      · exact ho
    | builtin b =>
      by_cases hb : b = .append
      · subst hb
        simp only [dop] at *
        split at ho
        · split at ho
          · rcases ho with ⟨k1, k2, k3, k4, k5, k6, k7, k8⟩ | ⟨k1, k2, k3, k4, k5, k6, k7, k8, k9, k10⟩ | ho
            · exact .inl ⟨k1, k2, k3, k4, k5, k6, k7, h _ _ k8⟩
            · exact .inr (.inl ⟨k1, k2, k3, k4, k5, k6, k7, k8, k9, fun c zs e1 e2 => h _ _ (k10 c zs e1 e2)⟩)
            · exact .inr (.inr (ho.mono h))
          · exact ho
        · exact ho.mono h
        · exact ho.mono h
        · exact ho.mono h
        · exact ho
      · cases b <;> first | exact absurd rfl hb | (simp only [dop] at *; exact onVal_mono (fun d hd => h d S hd) ho) | exact DRun.mono ho h
  | makeSlice t x y => exact DRun.mono ho h
  | typeAssert x xt t ok => exact DRun.mono ho h
  | lookup t x i ok => exact DRun.mono ho h
  | makeMap t r => exact DRun.mono ho h
  | mapUpdate t m k x => exact DRun.mono ho fun d S' hd => ⟨hd.1, h _ _ hd.2⟩
  | insert t m k x => exact DRun.mono ho fun d S' hd => ⟨hd.1, h _ _ hd.2⟩
  | _ => simp only [dop] at *; exact onVal_mono (fun d hd => h d S hd) ho
theorem dwanted_mono {ops : Array Oper} {f : Fm} {o : Oper} {y n y' n' : Prop} (hy : y → y') (hn : n → n') (h : dwanted ops f o y n) : dwanted ops f o y' n' := by
  obtain ⟨g, h1, h2, h3⟩ := dwanted_iff.1 h
  exact dwanted_iff.2 ⟨g, h1, fun e => hy (h2 e), fun e => hn (h3 e)⟩
theorem dlit_mono {P : Program} {ops : Array Oper} {f : Fm} {S : St} {o : Oper} {r : List Oper} {R R' : Fm → St → Prop} (h : ∀ f S, R f S → R' f S) (k : dlit P ops f S o r R) : dlit P ops f S o r R' := by
  unfold dlit at *
  split at k
  · obtain ⟨e, l, k', b1, b2, b3, b4, b5, b6, b7, b8, b9, b10⟩ := k
    exact ⟨e, l, k', b1, b2, b3, b4, b5, b6, b7, b8, b9, dwanted_mono (h _ _) (fun x => x) b10⟩
  · exact k.elim
theorem dops_mono_n {P : Program} {ops : Array Oper} {Q Q' : Fm → St → Prop} (h : ∀ f S, Q f S → Q' f S) : ∀ (n : Nat) (l : List Oper) {f : Fm} {S : St}, l.length ≤ n → dops P ops Q l f S → dops P ops Q' l f S
  | _, [], _, _, _, k => h _ _ k
  | 0, o :: l, _, _, hn, _ => absurd hn (by simp)
  | n + 1, o :: l, f, S, hn, k => by
    simp only [List.length_cons] at hn
    rw [dops_cons] at *
    exact dwanted_mono (dbs_mono (dop_mono fun d S' hd => dops_mono_n h n l (by omega) hd) (dlit_mono fun f S hd => dops_mono_n h n l.tail (by rw [List.length_tail]; omega) hd)) (dops_mono_n h n l (by omega)) k
theorem dops_mono {P : Program} {ops : Array Oper} {Q Q' : Fm → St → Prop} (h : ∀ f S, Q f S → Q' f S) (l : List Oper) {f : Fm} {S : St} (k : dops P ops Q l f S) : dops P ops Q' l f S := dops_mono_n h l.length l (Nat.le_refl _) k
section
variable {P : Program} {base : Nat}
theorem dop_congr {f f' : Fm} {S : St} {ty : TypeId} {op : Op} {K : D → St → Prop} (h : ∀ x ∈ op.operands, ev f x = ev f' x) (hd : dop P f S ty op K) : dop P f' S ty op K := by
  cases op with
  | alloc t => exact hd
  | box t x => simp only [dop] at *; rw [← h x (by simp [Op.operands])]; exact hd
  | store t x y => simp only [dop] at *; rw [← h x (by simp [Op.operands]), ← h y (by simp [Op.operands])]; exact hd
  | call cl =>
    obtain ⟨callee, args, ts⟩ := cl
    cases callee with
    | value x =>
      have h1 := h x (by simp [Op.operands, Call.operands])
      have h2 := ev_lists (l := args.toList) fun x hx => h x (by simp only [Op.operands, Call.operands, Array.mem_append]; exact .inr (by simpa using hx))
      simp only [dop] at *
      rw [← h1, ← h2]
      exact hd
    | invoke r m =>
      have h1 := h r (by simp [Op.operands, Call.operands])
      have h2 := ev_lists (l := args.toList) fun x hx => h x (by simp only [Op.operands, Call.operands, Array.mem_append]; exact .inr (by simpa using hx))
      simp only [dop] at *
      rw [← h1, ← h2]
      exact hd
    | builtin b =>
      have h2 := ev_lists (l := args.toList) fun x hx => h x (by simp only [Op.operands, Call.operands, Array.mem_append]; exact .inr (by simpa using hx))
      by_cases hb : b = .append
      · subst hb
        simp only [dop] at *
        rw [← h2]
        exact hd
      · have hv := dval_congr (P := P) (S := S) (ty := ty) h
        cases b <;> first | exact absurd rfl hb | (simp only [dop] at *; rw [← hv]; exact hd) | (simp only [dop] at *; rw [← h2]; exact hd)
  | makeSlice t x y => simp only [dop] at *; rw [← h x (by simp [Op.operands]), ← h y (by simp [Op.operands])]; exact hd
  | typeAssert x xt t ok => simp only [dop] at *; rw [← h x (by simp [Op.operands])]; exact hd
  | lookup t x i ok => simp only [dop] at *; rw [← h x (by simp [Op.operands]), ← h i (by simp [Op.operands])]; exact hd
  | makeMap t r => have h2 := ev_lists (l := r.toList) fun x hx => h x (by simpa [Op.operands] using hx); simp only [dop] at *; rw [← h2]; exact hd
  | mapUpdate t m k x => simp only [dop] at *; rw [← h m (by simp [Op.operands]), ← h k (by simp [Op.operands]), ← h x (by simp [Op.operands])]; exact hd
  | insert t m k x => simp only [dop] at *; rw [← h m (by simp [Op.operands]), ← h k (by simp [Op.operands]), ← h x (by simp [Op.operands])]; exact hd
  | convert s t x => have hv := dval_congr (P := P) (S := S) (ty := ty) h; have hv2 := dnew_congr (P := P) (S := S) h; simp only [dop] at *; rw [← hv, ← hv2]; exact hd
  | buildSlice t n ps => have hv := dnew_congr (P := P) (S := S) h; simp only [dop] at *; rw [← hv]; exact hd
  | build t ps => have hv := dnew_congr (P := P) (S := S) h; simp only [dop] at *; rw [← hv]; exact hd
  | _ => have hv := dval_congr (P := P) (S := S) (ty := ty) h; simp only [dop] at *; rw [← hv]; exact hd
variable {ops : Array Oper} {md : Region.Mode} {Zs : St → Prop}
def YdS (P : Program) (ops : Array Oper) (Zs : St → Prop) (o : Oper) (d : D) (f : Fm) : Prop := (gval ops f o = some true ∧ ∀ S, Zs S → dquietR P f S o.type o.op d) ∨ (gval ops f o = some false ∧ d = undefD)
def dbw (P : Program) (f : Fm) (S : St) (op : Op) (K : D → St → Prop) : Prop := match op with
  | .buildSlice t n ps => ∃ e : TypeId, elT P t = some e ∧ zeroT P e = true ∧ ps.toList.map (·.1) = List.range n ∧ n * szOf P e ≤ 16777216 ∧ (∀ d ∈ ps.toList.map (fun p => ev f p.2), d.okCell = true ∧ d.width = szOf P e) ∧ K (.win S.next 0 n n) (S.add (.box e (flat (ps.toList.map fun p => ev f p.2))))
  | _ => False
def dqk (P : Program) (f : Fm) (S : St) (ty : TypeId) (op : Op) (K : D → St → Prop) : Prop := ∃ d, dquietR P f S ty op d ∧ K d S
def dopW (P : Program) (f : Fm) (S : St) (ty : TypeId) (op : Op) (K : D → St → Prop) : Prop := dop P f S ty op K ∨ dbw P f S op K ∨ dqk P f S ty op K
theorem dbw_mono {f : Fm} {S : St} {op : Op} {K K' : D → St → Prop} (h : ∀ d S', K d S' → K' d S') (k : dbw P f S op K) : dbw P f S op K' := by
  unfold dbw at *
  split at k
  · obtain ⟨e, b1, b2, b3, b4, b5, b6⟩ := k
    exact ⟨e, b1, b2, b3, b4, b5, h _ _ b6⟩
  · exact k.elim
theorem dopW_mono {f : Fm} {S : St} {ty : TypeId} {op : Op} {K K' : D → St → Prop} (h : ∀ d S', K d S' → K' d S') (k : dopW P f S ty op K) : dopW P f S ty op K' := k.imp (dop_mono h) fun k => k.imp (dbw_mono h) fun ⟨d, h1, h2⟩ => ⟨d, h1, h _ _ h2⟩
theorem dopW_congr {f f' : Fm} {S : St} {ty : TypeId} {op : Op} {K : D → St → Prop} (h : ∀ x ∈ op.operands, ev f x = ev f' x) (k : dopW P f S ty op K) : dopW P f' S ty op K := by
  refine k.imp (dop_congr h) fun k => k.imp (fun k => ?_) fun ⟨d, h1, h2⟩ => ⟨d, dquietR_congr h h1, h2⟩
  cases op with
  | buildSlice t n ps =>
    obtain ⟨e, b1, b2, b3, b4, b5, b6⟩ := k
    have he : (ps.toList.map fun p => ev f p.2) = ps.toList.map fun p => ev f' p.2 := List.map_congr_left fun p hp => h p.2 (by simp only [Op.operands]; simp; exact ⟨p.1, by simpa using hp⟩)
    rw [he] at b5 b6
    exact ⟨e, b1, b2, b3, b4, b5, b6⟩
  | _ => exact k.elim
theorem dopW_sound {S : St} {η : Names} {w : World} {f : Fm} {a : Act} {Q : Exit → Act → World → Prop} (hM : Mem P base S η w) (hf : RepF P w η (Fix P S η) f a) {o : Oper} (hop0 : opsOk a.tmps.size o.op = true) {K : D → St → Prop} (h : dopW P f S o.type o.op K) : o.wp P a w (Left P base S η w a o.dst K) Q := by
  rcases h with h | h | ⟨d, h1, h2⟩
  · exact dop_sound hM hf hop0 h
  rotate_left
  · exact Oper.wp_mono (fun a' w' ⟨d', v, S', η', k1, k2, k3, k4⟩ => ⟨d', v, S', η', by obtain ⟨rfl, rfl⟩ := k1; exact h2, k2, k3, k4⟩) (dquiet_sound (Q := Q) hM hf hop0 h1)
  · obtain ⟨dst, op, ty, pos, after, guard⟩ := o
    have hop := opsOk_spec hop0
    cases op with
    | buildSlice t n ps =>
      obtain ⟨e, b1, b2, b3, b4, b5, b6⟩ := h
      obtain ⟨i, z, hi, hzr, hzs, hpos, hsz, _⟩ := zeroT_spec b2
      have hr := parts_rep hf ps.toList fun p hp => hop p.2 (by simp only [Op.operands]; simp; exact ⟨p.1, by simpa using hp⟩)
      have hlen : ps.toList.length = n := by have := congrArg List.length b3; simpa using this
      have hnb : n ≤ 140737488355328 := by
        have h1 : n * 1 ≤ n * szOf P e := Nat.mul_le_mul_left _ (by omega)
        omega
      obtain ⟨k1, k2⟩ := RepL.flat_ hr fun d hd => (b5 d hd).1
      have hfl : ((ps.map fun (i, x) => (i, a.eval x)).toList.flatMap fun q => q.2.cells.toList) = (ps.toList.map fun p => a.eval p.2).flatMap fun v => v.cells.toList := by
        simp [List.flatMap_map]
      have hrun := run_buildSlice_at (w := w) b1 b2 n (ps.map fun (i, x) => (i, a.eval x)) (by simpa [Function.comp_def] using b3) (fun q hq => by
        simp only [Array.toList_map, List.mem_map] at hq
        obtain ⟨p, hp, rfl⟩ := hq
        have hm : ev f p.2 ∈ ps.toList.map fun p => ev f p.2 := List.mem_map.2 ⟨p, hp, rfl⟩
        have := (hf.ev (hop p.2 (by simp only [Op.operands]; simp; exact ⟨p.1, by simpa using hp⟩))).cells_ (b5 _ hm).1
        rw [this.2.2]
        exact (b5 _ hm).2) b4
      rw [hfl] at hrun
      have G := goes_name hM (.box e (flat (ps.toList.map fun p => ev f p.2))) ((ps.toList.map fun p => a.eval p.2).flatMap fun v => v.cells.toList).toArray e (.inl ⟨_, _, rfl, rfl, k1, k2⟩)
      have hrun' : (execOp a.eval ⟨dst, .buildSlice t n ps, ty, pos, after, guard⟩).run P w = .ok (.value (.slice (some ⟨w.heap.size, 0, none⟩) n n)) (w.alloc (.cells ((ps.toList.map fun p => a.eval p.2).flatMap fun v => v.cells.toList).toArray e)) := by
        unfold execOp
        simp only
        rw [Sem.run_bind, hrun]
        rfl
      exact wp_value hrun' ⟨_, _, _, _, b6, G, by simp only [Rep]; exact .inl ⟨w.heap.size, by simp only [Names.add, ↓reduceIte], rfl, Nat.le_refl _, hnb⟩, rfl⟩
    | _ => exact h.elim
def sOp (P : Program) (ops : Array Oper) (Zs : St → Prop) (i : Nat) (K : Fm → St → Prop) (f : Fm) (S : St) : Prop := match ops[i]? with
  | none => K f S
  | some o => (∃ d, YdS P ops Zs o d f ∧ K (put f o.dst d) S) ∨ (gval ops f o = some true ∧ dopW P f S o.type o.op fun d S' => Zs S' ∧ K (put f o.dst d) S')
def sAny (P : Program) (md : Region.Mode) (ops : Array Oper) (Zs : St → Prop) (Q : Fm → St → Prop) : Nat → Array Bool → Fm → St → Prop
  | 0, L, f, S => Region.ready md ops L = [] ∧ Q f S
  | n + 1, L, f, S => (Region.ready md ops L = [] → Q f S) ∧ ∀ i ∈ Region.ready md ops L, sOp P ops Zs i (sAny P md ops Zs Q n (L.setIfInBounds i true)) f S
theorem sOp_mono {i : Nat} {K K' : Fm → St → Prop} {f : Fm} {S : St} (h : ∀ f S, K f S → K' f S) (hh : sOp P ops Zs i K f S) : sOp P ops Zs i K' f S := by
  unfold sOp at *
  split at hh
  · exact h _ _ hh
  · rcases hh with ⟨d, h1, h2⟩ | ⟨h1, h2⟩
    · exact .inl ⟨d, h1, h _ _ h2⟩
    · exact .inr ⟨h1, dopW_mono (fun d S' hk => ⟨hk.1, h _ _ hk.2⟩) h2⟩
theorem sAny_mono {Q Q' : Fm → St → Prop} (h : ∀ f S, Q f S → Q' f S) : ∀ (fuel : Nat) (L : Array Bool) {f : Fm} {S : St}, sAny P md ops Zs Q fuel L f S → sAny P md ops Zs Q' fuel L f S
  | 0, _, _, _, k => ⟨k.1, h _ _ k.2⟩
  | n + 1, L, f, S, k => ⟨fun e => h _ _ (k.1 e), fun i hi => sOp_mono (fun f S hk => sAny_mono h n _ hk) (k.2 i hi)⟩
theorem looks_ev {o : Oper} {x : Option Tmp} {e : D} {f : Fm} (h : ∀ t, x = some t → t ∉ o.looksAt ops) : ∀ y ∈ o.op.operands, ev (put f x e) y = ev f y := fun y hy => ev_put fun t ht hx => h t hx (by
    subst ht
    simp only [Oper.looksAt, List.mem_append, List.mem_filterMap]
    exact .inl ⟨.tmp t, by simpa using hy, rfl⟩)
theorem looks_gval {o : Oper} {x : Option Tmp} {e : D} {f : Fm} (h : ∀ t, x = some t → t ∉ o.looksAt ops) : gval ops (put f x e) o = gval ops f o := by
  unfold gval
  cases hgd : o.guard with
  | none => rfl
  | some p =>
    obtain ⟨j, want⟩ := p
    simp only
    cases hd : (ops[j]?).bind (·.dst) with
    | none => rfl
    | some t =>
      simp only
      rw [put_same (fun hx => h t hx (by simp only [Oper.looksAt, hgd, hd, List.mem_append]; exact .inr (by simp)))]
theorem YdS_put {o : Oper} {d e : D} {f : Fm} {x : Option Tmp} (h : ∀ t, x = some t → t ∉ o.looksAt ops) : YdS P ops Zs o d (put f x e) ↔ YdS P ops Zs o d f := by
  have hev := looks_ev (ops := ops) (o := o) (e := e) (f := f) h
  unfold YdS
  rw [looks_gval h]
  exact ⟨fun h => h.imp (fun h => ⟨h.1, fun S hS => dquietR_congr hev (h.2 S hS)⟩) id, fun h => h.imp (fun h => ⟨h.1, fun S hS => dquietR_congr (fun y hy => (hev y hy).symm) (h.2 S hS)⟩) id⟩
theorem sOp_put {j : Nat} {oi oj : Oper} {v : D} (hj : ops[j]? = some oj) (hap : oi.apart ops oj = true) {K : Fm → St → Prop} {f : Fm} {S : St} (hy : YdS P ops Zs oi v f) (h : sOp P ops Zs j K (put f oi.dst v) S) :
    sOp P ops Zs j (fun f' S' => YdS P ops Zs oi v f' ∧ K (put f' oi.dst v) S') f S := by
  obtain ⟨h1, h2, h3⟩ := Oper.apart_spec hap
  unfold sOp at *
  simp only [hj] at *
  rcases h with ⟨d, hd, hk⟩ | ⟨hg, hk⟩
  · refine .inl ⟨d, (YdS_put h1).1 hd, (YdS_put h3).2 hy, ?_⟩
    rw [← put_comm f v d h2]
    exact hk
  · refine .inr ⟨by rw [looks_gval h1] at hg; exact hg, ?_⟩
    refine dopW_mono (fun d S' hq => ⟨hq.1, (YdS_put h3).2 hy, ?_⟩) (dopW_congr (looks_ev h1) hk)
    rw [← put_comm f v d h2]
    exact hq.2
theorem sAny_first {Q : Fm → St → Prop} {i : Nat} {oi : Oper} {v : D} (hi : ops[i]? = some oi) :
    ∀ (fuel : Nat) (L : Array Bool) (f : Fm) (S : St),
      (∀ j oj, ops[j]? = some oj → j ≠ i → L.getD j true = false → (∀ e ∈ oj.after, Region.binds md e = true → e.on ≠ i) → oi.apart ops oj = true) →
      i ∈ Region.ready md ops L → YdS P ops Zs oi v f → sAny P md ops Zs Q fuel (L.setIfInBounds i true) (put f oi.dst v) S → sAny P md ops Zs Q (fuel + 1) L f S := by
  have here : ∀ {K : Fm → St → Prop} {f : Fm} {S : St}, YdS P ops Zs oi v f → K (put f oi.dst v) S → sOp P ops Zs i K f S := fun hy hk => by
    unfold sOp; simp only [hi]; exact .inl ⟨v, hy, hk⟩
  intro fuel
  induction fuel with
  | zero =>
    intro L f S _ hr hy H
    refine ⟨fun h => (by rw [h] at hr; cases hr), fun j hj => ?_⟩
    by_cases hji : j = i
    · subst hji; exact here hy H
    · have := ready_mono hj hji
      rw [H.1] at this
      cases this
  | succ fuel ih =>
    intro L f S hfree hr hy H
    refine ⟨fun h => (by rw [h] at hr; cases hr), fun j hj => ?_⟩
    by_cases hji : j = i
    · subst hji; exact here hy H
    · have h1 := H.2 j (ready_mono hj hji)
      obtain ⟨hjun, oj, hoj, hall⟩ := mem_ready.1 hj
      have hnot : ∀ e ∈ oj.after, Region.binds md e = true → e.on ≠ i := fun e he hb heq => by
        have h1 := hall e he hb
        have h0 := (mem_ready.1 hr).1
        rw [heq] at h1
        rcases Nat.lt_or_ge i L.size with h' | h'
        · simp [h'] at h0 h1; rw [h0] at h1; cases h1
        · simp [Array.getElem?_eq_none h'] at h1
      have h2 := sOp_put hoj (hfree j oj hoj hji hjun hnot) hy h1
      have hfree' : ∀ k ok, ops[k]? = some ok → k ≠ i → (L.setIfInBounds j true).getD k true = false →
          (∀ e ∈ ok.after, Region.binds md e = true → e.on ≠ i) → oi.apart ops ok = true := fun k ok hk hki hun hno => by
        refine hfree k ok hk hki ?_ hno
        by_cases hjk : j = k
        · subst hjk; exact hjun
        · rw [getD_set_ne true hjk] at hun; exact hun
      refine sOp_mono (fun a' S' h3 => ih (L.setIfInBounds j true) a' S' hfree' (ready_mono hr (Ne.symm hji)) h3.1 ?_) h2
      rw [Array.setIfInBounds_comm _ _ hji]
      exact h3.2
theorem s_take {Q : Fm → St → Prop} (i : Nat) {l : List Oper} {dst : Option Tmp} {op : Op} {ty : TypeId} {pos : String} {aft : Array Edge} {fuel : Nat} {L : Array Bool} {f : Fm} {S : St} (hi : nth l i = some ⟨dst, op, ty, pos, aft, none⟩) (hr : (Region.ready md (List.toArray l) L).contains i = true) (hf : Region.free md (List.toArray l) L i = true) {v : D}
    (hq : ∀ S, Zs S → dquietR P f S ty op v) (h : sAny P md (List.toArray l) Zs Q fuel (L.setIfInBounds i true) (put f dst v) S) : sAny P md (List.toArray l) Zs Q (fuel + 1) L f S :=
  have hi : (List.toArray l)[i]? = some ⟨dst, op, ty, pos, aft, none⟩ := by rw [← hi, nth_eq]; simp
  have hg : gval (List.toArray l) f ⟨dst, op, ty, pos, aft, none⟩ = some true := rfl
  sAny_first hi fuel L f S (Region.free_spec hi hf) (by simpa using hr) (.inl ⟨hg, hq⟩) h
theorem s_split {Q : Fm → St → Prop} {fuel : Nat} {L : Array Bool} {f : Fm} {S : St} (rs : List Nat) (hr : Region.ready md ops L = rs) (hne : rs ≠ []) (h : ∀ i ∈ rs, sOp P ops Zs i (sAny P md ops Zs Q fuel (L.setIfInBounds i true)) f S) : sAny P md ops Zs Q (fuel + 1) L f S :=
  ⟨fun e => absurd (hr ▸ e) hne, fun i hi => h i (hr ▸ hi)⟩
theorem s_op {i : Nat} {l : List Oper} {dst : Option Tmp} {op : Op} {ty : TypeId} {pos : String} {aft : Array Edge} (hi : nth l i = some ⟨dst, op, ty, pos, aft, none⟩) {K : Fm → St → Prop} {f : Fm} {S : St} (h : dop P f S ty op fun d S' => Zs S' ∧ K (put f dst d) S') : sOp P (List.toArray l) Zs i K f S := by
  have hi : (List.toArray l)[i]? = some ⟨dst, op, ty, pos, aft, none⟩ := by rw [← hi, nth_eq]; simp
  unfold sOp; simp only [hi]; exact .inr ⟨rfl, .inl h⟩
theorem s_done {Q : Fm → St → Prop} {fuel : Nat} {L : Array Bool} {f : Fm} {S : St} (hr : Region.ready md ops L = []) (h : Q f S) : sAny P md ops Zs Q fuel L f S := by
  cases fuel with
  | zero => exact ⟨hr, h⟩
  | succ n => exact ⟨fun _ => h, fun i hi => by rw [hr] at hi; cases hi⟩
theorem sAny_sound {Q : Fm → St → Prop} {Q' : Exit → Act → World → Prop} {n : Nat} (hok : ∀ (j : Nat) (o : Oper), ops[j]? = some o → operOk n ops o = true) : ∀ (fuel : Nat) (L : Array Bool) {S : St} {η : Names} {w : World} {f : Fm} {a : Act}, Zs S → Mem P base S η w → RepF P w η (Fix P S η) f a → a.tmps.size = n → sAny P md ops Zs Q fuel L f S →
    (∀ f' S' η' w' a', Q f' S' → Goes P base S η w S' η' w' → RepF P w' η' (Fix P S' η') f' a' → a'.tmps.size = n → a'.defers = a.defers → Q' .normal a' w') → wpAny P md ops Q' fuel L a w
  | 0, _, S, η, w, f, a, _, hM, hf, hn, h, hq => ⟨h.1, hq f S η w a h.2 (Goes.refl hM) hf hn rfl⟩
  | fuel + 1, L, S, η, w, f, a, hS, hM, hf, hn, h, hq => by
    refine ⟨fun h0 => hq f S η w a (h.1 h0) (Goes.refl hM) hf hn rfl, fun i hi => ?_⟩
    have h2 := h.2 i hi
    have goOn : ∀ {dst : Option Tmp} {d : D} {v : Value} {S1 : St} {η1 : Names} {w1 : World}, Zs S1 → sAny P md ops Zs Q fuel (L.setIfInBounds i true) (put f dst d) S1 → Goes P base S η w S1 η1 w1 → Rep P w1 η1 (Fix P S1 η1) d v → wpAny P md ops Q' fuel (L.setIfInBounds i true) (a.put dst v) w1 := fun {dst d v S1 η1 w1} k0 k1 k2 k3 =>
      sAny_sound hok fuel _ k0 k2.mem ((k2.repF hf).put k3 dst) (by rw [size_put]; exact hn) k1 (fun f' S' η' w' a' g1 g2 g3 g4 g5 => hq f' S' η' w' a' g1 (k2.trans g2) g3 g4 (by rw [g5, defers_put]))
    unfold sOp at h2
    unfold wpOp
    cases ho : ops[i]? with
    | none =>
      rw [ho] at h2
      exact sAny_sound hok fuel _ hS hM hf hn h2 hq
    | some o =>
      rw [ho] at h2
      simp only at h2 ⊢
      have hoo := hok i o ho
      rw [← hn] at hoo
      have hop : opsOk a.tmps.size o.op = true := by simp only [operOk, Bool.and_eq_true] at hoo; exact hoo.1
      rcases h2 with ⟨d, hy, hK⟩ | ⟨hg, hK⟩
      · rcases hy with ⟨hg, hr⟩ | ⟨hg, rfl⟩
        · rw [if_pos (gval_spec hf hoo hg)]
          refine .inl ?_
          refine Oper.wp_mono (fun a' w' ⟨d', v, S', η', k1, k2, k3, k4⟩ => ?_) (dquiet_sound (Q := Q') hM hf hop (hr S hS))
          obtain ⟨rfl, rfl⟩ := k1
          subst k4
          exact goOn hS hK k2 k3
        · rw [if_neg (by rw [gval_spec hf hoo hg]; simp)]
          exact goOn hS hK (Goes.refl hM) (by simp only [Rep, RepL]; exact ⟨[], rfl, rfl⟩)
      · rw [if_pos (gval_spec hf hoo hg)]
        refine .inl ?_
        refine Oper.wp_mono (fun a' w' ⟨d', v, S', η', k1, k2, k3, k4⟩ => ?_) (dopW_sound (Q := Q') hM hf hop hK)
        subst k4
        exact goOn k1.1 k1.2 k2 k3
end
end Go.Proofs.YtonncfminojejaaGreatDoor

namespace Go.Proofs.YtonncfminojejaaGreatDoor
open Go.RowKit

def drawOk (l : List Oper) (n : Nat) : Bool := Region.lexB .any (l.take n).toArray && (n == l.length || heldTailB l n)
def ddraw (P : Program) (l : List Oper) (Q : Fm → St → Prop) (f : Fm) (S : St) : Prop :=
  (∃ n, drawOk l n = true ∧ dhead P (l.take n).toArray S (fun f' S' => dops P l.toArray Q (l.drop n) f' S') (l.take n) f none) ∨
  ∃ (Zs : St → Prop) (n : Nat), Zs S ∧ (n == l.length || heldTailB l n) = true ∧ sAny P .any (l.take n).toArray Zs (fun f' S' => dops P l.toArray Q (l.drop n) f' S') (l.take n).toArray.size (Array.replicate (l.take n).toArray.size false) f S

inductive DX where
  | normal
  | exit (i : Nat)
  | ret
def DX.up : DX → Exit
  | .normal => .normal
  | .exit i => .exit i
  | .ret => .ret
abbrev DQ := DX → Fm → St → Prop
def DQ.then (k : Fm → St → Prop) (Q : DQ) : DQ
  | .normal, f, S => k f S
  | .exit i, f, S => Q (.exit i) f S
  | .ret, f, S => Q .ret f S
def DQ.block (id : Nat) (Q : DQ) : DQ
  | .normal, f, S => Q .normal f S
  | .exit i, f, S => bif Nat.beq i id then Q .normal f S else Q (.exit i) f S
  | .ret, f, S => Q .ret f S
structure St.Sub (S S' : St) : Prop where
  next : S.next ≤ S'.next
  ob : ∀ k o, S.ob k = some o → S'.ob k = some o
def DLoop (body : DQ → Fm → St → Prop) (Q : DQ) (f : Fm) (S : St) : Prop := ∃ (I : Fm → St → Prop) (μ : Fm → St → Nat), I f S ∧ ∀ g T, I g T →
  body (DQ.then (fun f' S' => ∃ S'' : St, (S''.next = S'.next ∧ ∀ k o, S''.ob k = some o → S'.ob k = some o) ∧ I f' S'' ∧ μ f' S'' < μ g T) Q) g T
def dwp (P : Program) : Code → DQ → Fm → St → Prop
  | .skip, Q, f, S => Q .normal f S
  | .label _, Q, f, S => Q .normal f S
  | .region _ ops false, Q, f, S => dops P ops (Q .normal) ops.toList f S
  | .region _ ops true, Q, f, S => ddraw P ops.toList (Q .normal) f S
  | .seq x y, Q, f, S => dwp P x (DQ.then (fun f S => dwp P y Q f S) Q) f S
  | .cond c x y, Q, f, S => match ev f c with
    | .v (.bool b) => (b = true → dwp P x Q f S) ∧ (b = false → dwp P y Q f S)
    | _ => False
  | .block id c, Q, f, S => dwp P c (DQ.block id Q) f S
  | .loop c, Q, f, S => DLoop (fun Q f S => dwp P c Q f S) Q f S
  | .exit id, Q, f, S => Q (.exit id) f S
  | .ret, Q, f, S => Q .ret f S
  | _, _, _, _ => False
def codeOk (n : Nat) : Code → Bool
  | .region _ ops _ => ops.all fun o => operOk n ops o
  | .seq x y => codeOk n x && codeOk n y
  | .cond c x y => opnOk n c && codeOk n x && codeOk n y
  | .block _ c => codeOk n c
  | .loop c => codeOk n c
  | _ => true

section
variable {P : Program} {base : Nat} {S : St} {η : Names} {w : World} {f : Fm} {a : Act}
theorem goes_sub (h : Mem P base S η w) {S' : St} (hn : S'.next = S.next) (hs : ∀ k o, S'.ob k = some o → S.ob k = some o) : Goes P base S η w S' η w := by
  have subS : ∀ k, (S'.ob k).isSome = true → (S.ob k).isSome = true := fun k hk => by
    obtain ⟨o, ho⟩ := Option.isSome_iff_exists.1 hk
    rw [hs k o ho]; rfl
  have K : Keep (fun _ => True) w η (Fix P S η) w η (Fix P S' η) := ⟨Nat.le_refl _, fun b i _ hx => ⟨fun k o hk hk' => hx k o hk (hs k o hk'), rfl⟩, fun _ _ _ hx => hx, fun _ c _ hx => ⟨c, hx, rfl⟩⟩
  refine ⟨⟨h.base_, fun k hk => h.dead k (by omega), fun k hk => ?_, fun k t cs hk => h.live k t cs (hs _ _ hk), fun k k' b h1 h2 h3 h4 => h.inj k k' b h1 h2 (subS k h3) (subS k' h4), h.in_, fun k t cs b h1 h2 => ?_, fun k e n b h1 h2 => h.row k e n b (hs _ _ h1) h2, h.glob⟩, K, Below.refl _ _, fun _ => Nat.le_refl _, Loops.refl _⟩
  · cases ho : S'.ob k with
    | none => rfl
    | some o => have := hs k o ho; rw [h.fresh k (by omega)] at this; cases this
  · obtain ⟨vs, k1, k2, k3⟩ := h.box k t cs b (hs _ _ h1) h2
    exact ⟨vs, k1, RepL.keep K (allL_true _) k2, k3⟩
theorem operOk_take {n m : Nat} {l : List Oper} {o : Oper} (h : operOk n l.toArray o = true) : operOk n (l.take m).toArray o = true := by
  simp only [operOk, Bool.and_eq_true] at *
  refine ⟨h.1, ?_⟩
  have h2 := h.2
  cases hg : o.guard with
  | none => rfl
  | some p =>
    obtain ⟨j, want⟩ := p
    rw [hg] at h2
    simp only at h2 ⊢
    by_cases hj : j < m
    · rw [take_get hj]; exact h2
    · rw [Array.getElem?_eq_none (by simp; omega)]; rfl
theorem ddraw_sound (hm : P.follows .mixedOrders = true) {id : Nat} {l : List Oper} {Q : Fm → St → Prop} {Q' : Exit → Act → World → Prop} (hok : ∀ o ∈ l, operOk a.tmps.size l.toArray o = true) (hM : Mem P base S η w) (hf : RepF P w η (Fix P S η) f a) (h : ddraw P l Q f S)
    (hq : ∀ f' S' η' w' a', Q f' S' → Goes P base S η w S' η' w' → RepF P w' η' (Fix P S' η') f' a' → a'.tmps.size = a.tmps.size → a'.defers = a.defers → Q' .normal a' w') : (Code.region id l.toArray true).wp P Q' a w := by
  have hokn : ∀ n, ∀ (j : Nat) (o : Oper), (l.take n).toArray[j]? = some o → operOk a.tmps.size (l.take n).toArray o = true := fun n j o ho => operOk_take (hok o (by
    have := List.mem_of_getElem? (show (l.take n)[j]? = some o by simpa using ho)
    exact List.mem_of_mem_take this))
  have G0 := goes_drew hM
  rcases h with ⟨n, hn, hh⟩ | ⟨Zs, n, hZ, hn, hh⟩
  rotate_left
  · simp only [Bool.or_eq_true, beq_iff_eq] at hn
    rcases hn with hn | hn
    · have hl : l.take n = l := by rw [hn, List.take_length]
      have hd : l.drop n = [] := by rw [hn, List.drop_length]
      have hokl := hokn n
      rw [hl] at hh hokl
      refine wp_region_any hm (sAny_sound (w := w.drew) hokl l.toArray.size _ hZ G0.mem (G0.repF hf) rfl hh fun f' S' η' w' a' g1 g2 g3 g4 g5 => ?_)
      rw [hd] at g1
      exact hq f' S' η' w' a' g1 (G0.trans g2) g3 g4 g5
    · refine wp_region_any_tail n hm hn ?_
      have := sAny_sound (Q' := Exit.then (fun a w => wpList P l.toArray Q' (l.drop n) a w) Q') (hokn n) (l.take n).toArray.size (Array.replicate (l.take n).toArray.size false) hZ G0.mem (G0.repF hf) rfl hh fun f' S1 η' w' a' g1 g2 g3 g4 g5 => by
        refine dops_sound (l.drop n) (fun o ho => by rw [g4]; exact hok o (List.mem_of_mem_drop ho)) g2.mem g3 g1 fun f'' S'' η'' w'' a'' k1 k2 k3 k4 k5 => ?_
        exact hq f'' S'' η'' w'' a'' k1 ((G0.trans g2).trans k2) k3 (by rw [k4, g4]) (by rw [k5, g5])
      exact this
  simp only [drawOk, Bool.and_eq_true, Bool.or_eq_true, beq_iff_eq] at hn
  obtain ⟨hlex, hn⟩ := hn
  simp only [Region.lexB, Bool.and_eq_true] at hlex
  have hany := hAny_lex (l.take n) 0 (Array.replicate (l.take n).toArray.size false) f none (by simp) (by simpa using hlex.2) hh
  have hok' := hokn n
  rcases hn with hn | hn
  · subst hn
    rw [List.take_length] at hany hok'
    refine wp_region_any hm (wpAny_of_head (u := none) (w := w.drew) hM.fresh hok' l.toArray.size _ G0.mem (G0.repF hf) rfl (by simpa using hany) fun f' u' η' w' a' g1 g2 g3 g4 g5 => ?_)
    have g1' : Q f' (after S u') := by simpa [dops, dops2] using g1
    exact hq f' (after S u') η' w' a' g1' (G0.trans g2) g3 g4 g5
  · refine wp_region_any_tail n hm hn ?_
    have := wpAny_of_head (u := none) (Q' := Exit.then (fun a w => wpList P l.toArray Q' (l.drop n) a w) Q') hM.fresh hok' (l.take n).toArray.size (Array.replicate (l.take n).toArray.size false) G0.mem (G0.repF hf) rfl (by simpa using hany) fun f' u' η' w' a' g1 g2 g3 g4 g5 => by
      refine dops_sound (l.drop n) (fun o ho => by rw [g4]; exact hok o (List.mem_of_mem_drop ho)) g2.mem g3 g1 fun f'' S'' η'' w'' a'' k1 k2 k3 k4 k5 => ?_
      exact hq f'' S'' η'' w'' a'' k1 ((G0.trans g2).trans k2) k3 (by rw [k4, g4]) (by rw [k5, g5])
    exact this
theorem dwp_sound (hm : P.follows .mixedOrders = true) : ∀ (c : Code) {Q : DQ} {S : St} {η : Names} {w : World} {f : Fm} {a : Act} {Q' : Exit → Act → World → Prop}, codeOk a.tmps.size c = true → Mem P base S η w → RepF P w η (Fix P S η) f a → dwp P c Q f S →
    (∀ e f' S' η' w' a', Q e f' S' → Goes P base S η w S' η' w' → RepF P w' η' (Fix P S' η') f' a' → a'.tmps.size = a.tmps.size → a'.defers = a.defers → Q' e.up a' w') → c.wp P Q' a w := by
  intro c
  induction c with
  | skip => intro Q S η w f a Q' _ hM hf h hq; exact wp_skip (hq .normal f S η w a h (Goes.refl hM) hf rfl rfl)
  | label l => intro Q S η w f a Q' _ hM hf h hq; exact wp_label (hq .normal f S η w a h (Goes.refl hM) hf rfl rfl)
  | exit id => intro Q S η w f a Q' _ hM hf h hq; exact wp_exit (hq (.exit id) f S η w a h (Goes.refl hM) hf rfl rfl)
  | ret => intro Q S η w f a Q' _ hM hf h hq; exact wp_ret (hq .ret f S η w a h (Goes.refl hM) hf rfl rfl)
  | region id ops draw =>
    intro Q S η w f a Q' hok hM hf h hq
    have hok' : ∀ o ∈ ops.toList, operOk a.tmps.size ops o = true := fun o ho => Array.all_eq_true_iff_forall_mem.1 hok o (by simpa using ho)
    cases draw with
    | false => exact wp_region_list (dops_sound ops.toList hok' hM hf h fun f' S' η' w' a' k1 k2 k3 k4 k5 => hq .normal f' S' η' w' a' k1 k2 k3 k4 k5)
    | true => exact ddraw_sound (l := ops.toList) hm hok' hM hf h fun f' S' η' w' a' k1 k2 k3 k4 k5 => hq .normal f' S' η' w' a' k1 k2 k3 k4 k5
  | seq x y ihx ihy =>
    intro Q S η w f a Q' hok hM hf h hq
    simp only [codeOk, Bool.and_eq_true] at hok
    refine wp_seq (ihx hok.1 hM hf h fun e f' S' η' w' a' k1 k2 k3 k4 k5 => ?_)
    cases e with
    | normal =>
      exact ihy (by rw [k4]; exact hok.2) k2.mem k3 k1 fun e f'' S'' η'' w'' a'' g1 g2 g3 g4 g5 => hq e f'' S'' η'' w'' a'' g1 (k2.trans g2) g3 (by rw [g4, k4]) (by rw [g5, k5])
    | exit i => exact hq (.exit i) f' S' η' w' a' k1 k2 k3 k4 k5
    | ret => exact hq .ret f' S' η' w' a' k1 k2 k3 k4 k5
  | cond g x y ihx ihy =>
    intro Q S η w f a Q' hok hM hf h hq
    simp only [codeOk, Bool.and_eq_true] at hok
    have hg := hf.ev hok.1.1
    unfold dwp at h
    split at h
    · rename_i b hb
      rw [hb] at hg
      simp only [Rep] at hg
      refine wp_cond (t := b) hg ?_
      cases b with
      | true => exact ihx hok.1.2 hM hf (h.1 rfl) hq
      | false => exact ihy hok.2 hM hf (h.2 rfl) hq
    · exact h.elim
  | block id c ih =>
    intro Q S η w f a Q' hok hM hf h hq
    refine wp_block (ih hok hM hf h fun e f' S' η' w' a' k1 k2 k3 k4 k5 => ?_)
    cases e with
    | normal => exact hq .normal f' S' η' w' a' k1 k2 k3 k4 k5
    | ret => exact hq .ret f' S' η' w' a' k1 k2 k3 k4 k5
    | exit i =>
      simp only [DQ.block] at k1
      simp only [DX.up, Exit.inBlock]
      cases hb : Nat.beq i id with
      | true =>
        rw [if_pos (Nat.eq_of_beq_eq_true hb)]
        rw [hb] at k1
        exact hq .normal f' S' η' w' a' k1 k2 k3 k4 k5
      | false =>
        rw [if_neg (by intro e; rw [e, Nat.beq_refl] at hb; cases hb)]
        rw [hb] at k1
        exact hq (.exit i) f' S' η' w' a' k1 k2 k3 k4 k5
  | loop c ih =>
    intro Q S η w f a Q' hok hM hf h hq
    unfold dwp at h
    obtain ⟨I, μ, h0, hround⟩ := h
    intro b k cs
    have key : ∀ n (g : Fm) (T : St) (η1 : Names) (w1 : World) (a1 : Act), μ g T = n → I g T → Goes P base S η w T η1 w1 → RepF P w1 η1 (Fix P T η1) g a1 → a1.tmps.size = a.tmps.size → a1.defers = a.defers →
        ∃ e a' w', Q' e a' w' ∧ Arrives P (lone (b.at a1 (.code c :: .inLoop c :: k)) cs w1) b k cs e a' w' := by
      intro n
      induction n using Nat.strongRecOn with
      | _ n ihn =>
        intro g T η1 w1 a1 hn hI hG hF hs hd
        have hr := hround g T hI
        have := ih (Q' := fun e a' w' => (e = .normal ∧ ∃ g' T' η', I g' T' ∧ μ g' T' < μ g T ∧ Goes P base S η w T' η' w' ∧ RepF P w' η' (Fix P T' η') g' a' ∧ a'.tmps.size = a.tmps.size ∧ a'.defers = a.defers) ∨ (e ≠ .normal ∧ Q' e a' w')) (by rw [hs]; exact hok) hG.mem hF hr (fun e f' S' η' w' a' k1 k2 k3 k4 k5 => by
          cases e with
          | normal =>
            obtain ⟨S'', ⟨s1, s2⟩, s3, s4⟩ := k1
            have G2 := goes_sub k2.mem s1 s2
            exact .inl ⟨rfl, f', S'', η', s3, s4, (hG.trans k2).trans G2, G2.repF k3, by rw [k4, hs], by rw [k5, hd]⟩
          | exit i => exact .inr ⟨by simp [DX.up], hq (.exit i) f' S' η' w' a' k1 (hG.trans k2) k3 (by rw [k4, hs]) (by rw [k5, hd])⟩
          | ret => exact .inr ⟨by simp [DX.up], hq .ret f' S' η' w' a' k1 (hG.trans k2) k3 (by rw [k4, hs]) (by rw [k5, hd])⟩)
        obtain ⟨e, a₁, w₁, hq', harr⟩ := this b (.inLoop c :: k) cs
        rcases hq' with ⟨rfl, g', T', η', j1, j2, j3, j4, j5, j6⟩ | ⟨hne, hq'⟩
        · obtain ⟨e₂, a₂, w₂, hq₂, harr₂⟩ := ihn (μ g' T') (hn ▸ j2) g' T' η' w₁ a₁ rfl j1 j3 j4 j5 j6
          exact ⟨e₂, a₂, w₂, hq₂, .of_steps (Steps.trans harr (.one step_inLoop)) harr₂⟩
        · cases e with
          | normal => exact absurd rfl hne
          | exit id => exact ⟨_, a₁, w₁, hq', .pass (x := .inLoop c) rfl (fun _ _ => .inl (by simp)) harr⟩
          | goto l => exact ⟨_, a₁, w₁, hq', .pass (x := .inLoop c) rfl (fun _ _ => .inl (by simp)) harr⟩
          | ret => exact ⟨_, a₁, w₁, hq', .pass (x := .inLoop c) rfl (fun _ _ => .inl (by simp)) harr⟩
          | panic ch => exact ⟨_, a₁, w₁, hq', .pass (x := .inLoop c) rfl (fun _ _ => .inl (by simp)) harr⟩
          | outgrown => exact ⟨_, a₁, w₁, hq', .pass (x := .inLoop c) rfl (fun _ _ => .inl (by simp)) harr⟩
    obtain ⟨e, a', w', hq', harr⟩ := key _ f S η w a rfl h0 (Goes.refl hM) hf rfl rfl
    exact ⟨e, a', w', hq', .of_steps (.one step_loop) harr⟩
  | rangeFunc x ps aa b _ _ => intro Q S η w f a Q' _ _ _ h; exact h.elim
  | scope c _ => intro Q S η w f a Q' _ _ _ h; exact h.elim
  | goto l => intro Q S η w f a Q' _ _ _ h; exact h.elim
  | refuse s => intro Q S η w f a Q' _ _ _ h; exact h.elim
end

/-! ### Functions -/
def argF (args : List D) : Fm := fun t => args.getD t undefD
def dres (P : Program) (f : Fm) (S : St) : ResultVar → Option (Prop × D)
  | .tmp t => some (True, f t)
  | .cell x t => match f x with
    | .loc k off => match S.ob k with
      | some (.box _ cs) => some (rdOk P t cs off, rdVal P t cs off)
      | _ => none
    | _ => none
def dresL (P : Program) (f : Fm) (S : St) : List ResultVar → (List D → Prop) → Prop
  | [], K => K []
  | r :: l, K => onVal (dres P f S r) fun d => dresL P f S l fun ds => K (d :: ds)
def one (ds : List D) : D := match ds with
  | [d] => d
  | ds => .tup ds
def resOk (n : Nat) : ResultVar → Bool
  | .tmp t => Nat.blt t n
  | .cell t _ => Nat.blt t n
def DLe (d d' : D) : Prop := ∀ (P : Program) (w : World) (η : Names) (X : Nat → Nat → Prop) (v : Value), Rep P w η X d v → Rep P w η X d' v
def DFin (S S' : St) (d : D) (K : D → St → Prop) : Prop := ∃ d' S'', DLe d d' ∧ d'.all (· < S''.next) ∧ S''.next ≤ S'.next ∧ S.next ≤ S''.next ∧
  (∀ k o, S''.ob k = some o → S'.ob k = some o ∧ k < S''.next ∧ ∀ t cs, o = .box t cs → S.ob k = some o ∨ allL (· < S''.next) cs) ∧ K d' S''
def Thaw (P : Program) (S : St) (d : D) (S1 : St) (d1 : D) : Prop := ∀ base η w v, Mem P base S η w → Rep P w η (Fix P S η) d v → ∃ η', Goes P base S η w S1 η' w ∧ Rep P w η' (Fix P S1 η') d1 v
theorem Thaw.refl (P : Program) (S : St) (d : D) : Thaw P S d S d := fun _ η _ _ hM hr => ⟨η, Goes.refl hM, hr⟩
def DFinT (P : Program) (S S' : St) (d : D) (K : D → St → Prop) : Prop := ∃ S1 d1, Thaw P S' d S1 d1 ∧ DFin S S1 d1 K
theorem DFin.t {P : Program} {S S' : St} {d : D} {K : D → St → Prop} (h : DFin S S' d K) : DFinT P S S' d K := ⟨S', d, Thaw.refl P S' d, h⟩
def DQ.fin (P : Program) (rs : List ResultVar) (S : St) (K : D → St → Prop) : DQ
  | .exit _, _, _ => False
  | _, f, S' => dresL P f S' rs fun ds => DFinT P S S' (one ds) K
section
variable {P : Program} {base : Nat} {S : St} {η : Names} {w : World} {f : Fm} {a : Act}
def rv (tmps : Array Value) : ResultVar → Sem Value
  | .tmp t => pure (tmps.getD t undef)
  | .cell x t => do loadVar t (← asAddr (tmps.getD x undef))
theorem results_rv (fn : Func) (tmps : Array Value) : results fn tmps = (do let vs ← fn.results.mapM (rv tmps); pure (if h : vs.size = 1 then vs[0] else .tuple vs)) := by
  unfold results
  congr 1
theorem dres_sound (hM : Mem P base S η w) (hf : RepF P w η (Fix P S η) f a) {r : ResultVar} (hr : resOk a.tmps.size r = true) {c : Prop} {d : D} (h : dres P f S r = some (c, d)) (hc : c) :
    ∃ v, (rv a.tmps r).run P w = .ok v w ∧ Rep P w η (Fix P S η) d v := by
  cases r with
  | tmp t =>
    simp only [dres] at h
    injection h with h; injection h with _ hd; subst hd
    exact ⟨_, rfl, hf t (by simpa [resOk, Nat.blt_eq] using hr)⟩
  | cell x t =>
    simp only [dres] at h
    have hx := hf x (by simpa [resOk, Nat.blt_eq] using hr)
    split at h
    · rename_i k off hk
      rw [hk] at hx
      split at h
      · rename_i t' cs hb
        -- as a load
        have hl : dval P (fun _ => .loc k off) S 0 (.load t (.tmp 0)) = some (rdOk P t cs off, rdVal P t cs off) := by simp only [dval, ev, hb]
        rw [h] at hl
        have hF : RepF P w η (Fix P S η) (fun _ => .loc k off) { tmps := #[a.tmps.getD x undef], defers := [] } := fun i hi => by
          have : i = 0 := by simpa using hi
          subst this
          exact hx
        obtain ⟨v, h1, h2⟩ := dval_sound (o := ⟨none, .load t (.tmp 0), 0, "", #[], none⟩) hM hF (by simp [opsOk, Op.operands, opnOk]) hl hc
        simp only [Rep] at hx
        obtain ⟨b, _, e2⟩ := hx
        refine ⟨v, ?_, h2⟩
        have e : (execOp (Act.eval { tmps := #[a.tmps.getD x undef], defers := [] }) ⟨none, .load t (.tmp 0), 0, "", #[], none⟩).run P w = ((loadVar t ⟨b, off, none⟩).run P w).andThen fun v w => .ok (.value v) w := by
          unfold execOp
          simp only [Act.eval, Sem.run_bind, Instr.loadAt]
          rw [show (#[a.tmps.getD x undef] : Array Value).getD 0 undef = a.tmps.getD x undef from rfl, e2]
          rfl
        rw [e] at h1
        simp only [rv, e2, asAddr, Sem.run_bind, Sem.run_pure, Result.andThen_ok]
        cases hv : (loadVar t ⟨b, off, none⟩).run P w with
        | ok u w2 =>
          rw [hv] at h1
          simp only [Result.andThen_ok] at h1
          injection h1 with h1 h1'
          injection h1 with h1
          rw [h1, h1']
        | halt u w2 =>
          rw [hv] at h1
          cases h1
      · cases h
    · cases h
theorem dresL_sound (hM : Mem P base S η w) (hf : RepF P w η (Fix P S η) f a) : ∀ (l : List ResultVar) {K : List D → Prop}, (∀ r ∈ l, resOk a.tmps.size r = true) → dresL P f S l K →
    ∃ ds vs, K ds ∧ RepL P w η (Fix P S η) ds vs ∧ (l.mapM (rv a.tmps)).run P w = .ok vs w
  | [], K, _, h => ⟨[], [], h, by simp [RepL], rfl⟩
  | r :: l, K, hr, h => by
    unfold dresL at h
    cases hd : dres P f S r with
    | none => rw [hd] at h; exact h.elim
    | some p =>
      obtain ⟨c, d⟩ := p
      rw [hd] at h
      obtain ⟨v, h1, h2⟩ := dres_sound hM hf (hr r (by simp)) hd h.1
      obtain ⟨ds, vs, k1, k2, k3⟩ := dresL_sound hM hf l (fun r' hr' => hr r' (by simp [hr'])) h.2
      refine ⟨d :: ds, v :: vs, k1, by simp only [RepL]; exact ⟨v, vs, rfl, h2, k2⟩, ?_⟩
      rw [List.mapM_cons, Sem.run_bind]
      rw [h1, Result.andThen_ok, Sem.run_bind, k3, Result.andThen_ok]
      rfl
theorem results_sound (hM : Mem P base S η w) (hf : RepF P w η (Fix P S η) f a) {fn : Func} {K : List D → Prop} (hr : fn.results.all (resOk a.tmps.size) = true) (h : dresL P f S fn.results.toList K) :
    ∃ ds v, K ds ∧ Rep P w η (Fix P S η) (one ds) v ∧ (results fn a.tmps).run P w = .ok v w := by
  obtain ⟨ds, vs, k1, k2, k3⟩ := dresL_sound hM hf fn.results.toList (fun r hr' => Array.all_eq_true_iff_forall_mem.1 hr r (by simpa using hr')) h
  have hm : (fn.results.mapM (rv a.tmps)).run P w = .ok vs.toArray w := by
    rw [Array.mapM_eq_mapM_toList, map_eq_pure_bind, Sem.run_bind, k3, Result.andThen_ok]
    rfl
  have hrun : (results fn a.tmps).run P w = .ok (if h : vs.toArray.size = 1 then vs.toArray[0] else .tuple vs.toArray) w := by
    rw [results_rv, Sem.run_bind, hm, Result.andThen_ok]
    rfl
  have hl := k2.length
  cases ds with
  | nil =>
    have : vs = [] := List.eq_nil_of_length_eq_zero (by simpa using hl)
    subst this
    exact ⟨[], .tuple #[], k1, by simp only [one, Rep, RepL]; exact ⟨[], rfl, rfl⟩, hrun⟩
  | cons d1 ds =>
    cases vs with
    | nil => simp at hl
    | cons v1 vs =>
      cases ds with
      | nil =>
        have : vs = [] := List.eq_nil_of_length_eq_zero (by simpa using hl)
        subst this
        simp only [RepL] at k2
        obtain ⟨x, xs, h1, h2, h3⟩ := k2
        injection h1 with h1 _
        subst h1
        exact ⟨[d1], v1, k1, h2, hrun⟩
      | cons d2 ds =>
        refine ⟨_, .tuple (v1 :: vs).toArray, k1, by simp only [one, Rep]; exact ⟨_, rfl, k2⟩, ?_⟩
        rw [hrun, dif_neg (by simp only [List.size_toArray, List.length_cons] at hl ⊢; omega)]
theorem dcalls_of_dwp (hm : P.follows .mixedOrders = true) {g : FuncId} {fn : Func} {c : Code} (hf : P.funcs[g]? = some fn) (hb : fn.body = some c) (hent : ∀ vs w, (callFunc g vs).run P w = .ok (.enter g vs) w) {rs : List ResultVar} (hrs : fn.results.toList = rs) {args : List D} (hok : (codeOk fn.ntmps c && fn.results.all (resOk fn.ntmps) && Nat.ble args.length fn.ntmps) = true) {S : St} {K : D → St → Prop}
    (h : S.WF → dwp P c (DQ.fin P rs S K) (argF args) S) : DCalls P g args S K := by
  subst hrs
  intro base η w vs hM hr
  refine .inl ⟨hent _ _, ?_⟩
  simp only [Bool.and_eq_true] at hok
  obtain ⟨⟨hok1, hok2⟩, hok3⟩ := hok
  have hlen : args.length ≤ fn.ntmps := Nat.le_of_ble_eq_true hok3
  have hl := hr.length
  have hsz : (vs.toArray ++ Array.replicate (fn.ntmps - vs.toArray.size) undef).size = fn.ntmps := by simp; omega
  refine calls_of_wp hf hb ?_
  refine dwp_sound hm c (a := { tmps := vs.toArray ++ Array.replicate (fn.ntmps - vs.toArray.size) undef, defers := [] }) (by rw [hsz]; exact hok1) hM (fun t ht => ?_) (h hM.fresh) fun e f' S' η' w' a' k1 k2 k3 k4 k5 => ?_
  · rw [hsz] at ht
    simp only [argF]
    by_cases h1 : t < vs.length
    · obtain ⟨x, hx, hr'⟩ := hr.get t (List.getElem?_eq_getElem (by omega : t < args.length))
      have e1 : args.getD t undefD = args[t] := by rw [List.getD_eq_getElem?_getD, List.getElem?_eq_getElem (by omega : t < args.length)]; rfl
      have e2 : (vs.toArray ++ Array.replicate (fn.ntmps - vs.toArray.size) undef).getD t undef = x := by
        rw [Array.getD_eq_getD_getElem?, Array.getElem?_append_left (by simpa using h1)]
        simp [hx]
      rw [e1, e2]
      exact hr'
    · have e1 : args.getD t undefD = undefD := by rw [List.getD_eq_getElem?_getD, List.getElem?_eq_none (by omega)]; rfl
      have e2 : (vs.toArray ++ Array.replicate (fn.ntmps - vs.toArray.size) undef).getD t undef = undef := by
        rw [Array.getD_eq_getD_getElem?, Array.getElem?_append_right (by simpa using h1)]
        rw [Array.getElem?_replicate]
        split <;> rfl
      rw [e1, e2]
      simp only [Rep, RepL]
      exact ⟨[], rfl, rfl⟩
  · have hsz' : a'.tmps.size = fn.ntmps := by rw [k4]; exact hsz
    have hd' : a'.defers = [] := k5
    have fin : dresL P f' S' fn.results.toList (fun ds => DFinT P S S' (one ds) K) → a'.defers = [] ∧ ∃ v, (results fn a'.tmps).run P w' = .ok v w' ∧ ∃ d S'' η'' u, K d S'' ∧ Ending.returned v = .returned u ∧ Rep P w' η'' (Fix P S'' η'') d u ∧ Goes P base S η w S'' η'' w' := fun hres => by
      obtain ⟨ds, v, ⟨S1, d1, t1, d', S'', q1, q2, q3, q4, q5, q6⟩, q7, q8⟩ := results_sound k2.mem k3 (by rw [hsz']; exact hok2) hres
      obtain ⟨η3, t2, t3⟩ := t1 _ _ _ _ k2.mem q7
      obtain ⟨g1, g2⟩ := goes_fin hM (k2.trans t2) q3 q4 q5
      exact ⟨hd', v, q8, d', S'', _, v, q6, rfl, g2 d' v q2 (q1 _ _ _ _ _ t3), g1⟩
    cases e with
    | normal => exact fin k1
    | ret => exact fin k1
    | exit i => exact k1.elim
end

/-! ### Whose room it is, forgotten -/
mutual
def D.frz : D → D
  | .v x => .v x
  | .agg cs => .agg (frzL cs)
  | .tup cs => .tup (frzL cs)
  | .fn f fs cs => .fn f (frzL fs) (frzL cs)
  | .ifc t d => .ifc t d.frz
  | .loc k o => .loc k o
  | .rd cs o => .rd (frzL cs) o
  | .sl _ es => .sl .no (frzL es)
  | .win k off n c => .win k off n c
def frzL : List D → List D
  | [] => []
  | d :: l => d.frz :: frzL l
end
theorem frzL_map : ∀ l : List D, frzL l = l.map D.frz
  | [] => rfl
  | d :: l => by simp [frzL, frzL_map l]
theorem frzL_length : ∀ l : List D, (frzL l).length = l.length
  | [] => rfl
  | d :: l => by simp [frzL, frzL_length l]
theorem frz_isAgg (d : D) : d.frz.isAgg = d.isAgg := by cases d <;> rfl
section
variable {P : Program} {w : World} {η : Names} {X : Nat → Nat → Prop}
mutual
theorem Rep.frz : ∀ {d : D} {v : Value}, Rep P w η X d v → Rep P w η X d.frz v
  | .v x, v, h => by simp only [D.frz]; exact h
  | .agg cs, v, h => by
    simp only [D.frz, Rep] at *
    obtain ⟨vs, h1, h2, h3⟩ := h
    exact ⟨vs, h1, RepL.frz h2, h3⟩
  | .tup cs, v, h => by
    simp only [D.frz, Rep] at *
    obtain ⟨vs, h1, h2⟩ := h
    exact ⟨vs, h1, RepL.frz h2⟩
  | .fn f fs cs, v, h => by
    simp only [D.frz, Rep] at *
    obtain ⟨us, vs, h1, h2, h3⟩ := h
    exact ⟨us, vs, h1, RepL.frz h2, RepL.frz h3⟩
  | .ifc t d, v, h => by
    simp only [D.frz, Rep] at *
    obtain ⟨x, h1, h2⟩ := h
    exact ⟨x, h1, Rep.frz h2⟩
  | .loc k o, v, h => by simp only [D.frz]; exact h
  | .rd cs o, v, h => by
    simp only [D.frz, Rep] at *
    obtain ⟨b, p, h1, h2⟩ := h
    exact ⟨b, p, h1, RepC.frz h2⟩
  | .sl o es, v, h => by
    simp only [D.frz, Rep] at *
    rw [frzL_length]
    obtain ⟨A, c, h1, h2, h3, h4, h5⟩ := h
    refine ⟨A, c, h1, h2, h3, trivial, fun h0 => ?_⟩
    obtain ⟨b, p, z, e1, e2, e3⟩ := h5 h0
    exact ⟨b, p, z, e1, e2, RepE.frz z e3⟩
  | .win k off n c, v, h => by simp only [D.frz]; exact h
theorem RepL.frz : ∀ {l : List D} {vs : List Value}, RepL P w η X l vs → RepL P w η X (frzL l) vs
  | [], vs, h => by simp only [frzL]; exact h
  | d :: l, vs, h => by
    simp only [frzL, RepL] at *
    obtain ⟨x, xs, h1, h2, h3⟩ := h
    exact ⟨x, xs, h1, Rep.frz h2, RepL.frz h3⟩
theorem RepC.frz : ∀ {l : List D} {b o : Nat}, RepC P w η X l b o → RepC P w η X (frzL l) b o
  | [], b, o, h => by simp only [frzL]; exact h
  | d :: l, b, o, h => by
    simp only [frzL, RepC] at *
    obtain ⟨⟨h1, x, h2, h3, h4⟩, h5⟩ := h
    exact ⟨⟨h1, x, h2, h3, Rep.frz h4⟩, RepC.frz h5⟩
theorem RepE.frz (z : Nat) : ∀ {l : List D} {b o : Nat}, RepE P w η X z l b o → RepE P w η X z (frzL l) b o
  | [], b, o, h => by simp only [frzL]; exact h
  | d :: l, b, o, h => by
    simp only [frzL, RepE] at *
    obtain ⟨⟨h1, h2⟩, h5⟩ := h
    refine ⟨⟨RepA.frz z h1, fun hn => ?_⟩, RepE.frz z h5⟩
    rw [frz_isAgg] at hn
    obtain ⟨e1, e2, x, e3, e4, e5⟩ := h2 hn
    exact ⟨e1, e2, x, e3, e4, Rep.frz e5⟩
theorem RepA.frz (z : Nat) : ∀ {d : D} {b o : Nat}, RepA P w η X z d b o → RepA P w η X z d.frz b o
  | .agg cs, b, o, h => by
    simp only [D.frz, RepA] at *
    rw [frzL_length]
    exact ⟨h.1, RepC.frz h.2⟩
  | .v _, _, _, _ => by simp only [D.frz, RepA]
  | .tup _, _, _, _ => by simp only [D.frz, RepA]
  | .fn _ _ _, _, _, _ => by simp only [D.frz, RepA]
  | .ifc _ _, _, _, _ => by simp only [D.frz, RepA]
  | .loc _ _, _, _, _ => by simp only [D.frz, RepA]
  | .rd _ _, _, _, _ => by simp only [D.frz, RepA]
  | .sl _ _, _, _, _ => by simp only [D.frz, RepA]
  | .win _ _ _ _, _, _, _ => by simp only [D.frz, RepA]
end
end
theorem DLe.refl (d : D) : DLe d d := fun _ _ _ _ _ h => h
theorem DLe.frz (d : D) : DLe d d.frz := fun _ _ _ _ _ h => h.frz
def D.closed (d : D) : Prop := d.all fun _ => False
theorem St.Sub.refl (S : St) : S.Sub S := ⟨Nat.le_refl _, fun _ _ h => h⟩
theorem St.Sub.add {S S' : St} (h : S.Sub S') (hw : S.WF) (o : Ob) : S.Sub (S'.add o) := ⟨Nat.le_succ_of_le h.next, fun k o' hk => by
  have : k ≠ S'.next := fun e => by
    have hlt : k < S.next := by
      rcases Nat.lt_or_ge k S.next with h' | h'
      · exact h'
      · rw [hw k h'] at hk; cases hk
    have := h.next
    omega
  simp only [St.add]
  rw [if_neg this]
  exact h.ob k o' hk⟩
theorem St.WF.lt {S : St} (hw : S.WF) {k : Nat} {o : Ob} (h : S.ob k = some o) : k < S.next := by
  rcases Nat.lt_or_ge k S.next with h' | h'
  · exact h'
  · rw [hw k h'] at h; cases h
theorem St.Sub.set {S S' : St} (h : S.Sub S') (hw : S.WF) {k : Nat} (hk : S.next ≤ k) (o : Ob) : S.Sub (S'.set k o) := ⟨h.next, fun j o' hj => by
  have := hw.lt hj
  simp only [St.set]
  rw [if_neg (by omega)]
  exact h.ob j o' hj⟩
theorem St.Sub.drop {S S' : St} (h : S.Sub S') (hw : S.WF) {k : Nat} (hk : S.next ≤ k) : S.Sub (S'.drop k) := ⟨h.next, fun j o' hj => by
  have := hw.lt hj
  simp only [St.drop]
  rw [if_neg (by omega)]
  exact h.ob j o' hj⟩
theorem St.Sub.grow {S S' : St} (h : S.Sub S') (hw : S.WF) {own : Own} (ho : ∀ g, own = .row g → S.next ≤ g) (e : TypeId) (n : Nat) : S.Sub (S'.grow own e n) := by
  cases own with
  | row g => exact (h.drop hw (ho g rfl)).add hw _
  | no => exact h.add hw _
  | full => exact h.add hw _
structure PFin (S S' : St) (r d : D) : Prop where
  eq : r.frz = d
  sub : S.Sub S'
def DQ.pfin (P : Program) (rs : List ResultVar) (S : St) (d : D) : DQ
  | .exit _, _, _ => False
  | _, f, S' => dresL P f S' rs fun ds => PFin S S' (one ds) d
theorem dresL_mono {P : Program} {f : Fm} {S : St} : ∀ {l : List ResultVar} {K K' : List D → Prop}, (∀ ds, K ds → K' ds) → dresL P f S l K → dresL P f S l K'
  | [], _, _, h, k => h _ k
  | _ :: _, _, _, h, k => by
    unfold dresL at *
    exact onVal_mono (fun d hd => dresL_mono (fun ds hds => h _ hds) hd) k
theorem pfin_fin {P : Program} {rs : List ResultVar} {S : St} {d : D} (hw : S.WF) (hc : d.closed) : ∀ e f S', DQ.pfin P rs S d e f S' → DQ.fin P rs S (fun d' T => d' = d ∧ T = S) e f S' := by
  have key : ∀ f S', dresL P f S' rs (fun ds => PFin S S' (one ds) d) → dresL P f S' rs (fun ds => DFinT P S S' (one ds) fun d' T => d' = d ∧ T = S) := fun f S' h =>
    dresL_mono (fun ds ⟨h1, h2⟩ => DFin.t ⟨d, S, h1 ▸ DLe.frz _, D.all_mono (fun _ h => h.elim) hc, h2.next, Nat.le_refl _, fun k o hk => ⟨h2.ob k o hk, hw.lt hk, fun _ _ _ => .inl hk⟩, rfl, rfl⟩) h
  intro e f S' h
  cases e with
  | normal => exact key f S' h
  | ret => exact key f S' h
  | exit i => exact h
theorem dquiet_mono {P : Program} {f : Fm} {S : St} {ty : TypeId} {op : Op} {K K' : D → Prop} (h : ∀ d, K d → K' d) (hq : dquiet P f S ty op K) : dquiet P f S ty op K' := by
  obtain ⟨d, h1, h2⟩ := dquiet_iff.1 hq
  exact dquiet_iff.2 ⟨d, h1, h d h2⟩
theorem hop_mono {P : Program} {f : Fm} {S : St} {u : Option Ob} {ty : TypeId} {op : Op} {K K' : D → Option Ob → Prop} (h : ∀ d u, K d u → K' d u) (hq : hop P f S u ty op K) : hop P f S u ty op K' := by
  cases op with
  | alloc t => exact ⟨hq.1, hq.2.1, h _ _ hq.2.2⟩
  | box t x => exact ⟨hq.1, hq.2.1, h _ _ hq.2.2⟩
  | _ => simp only [hop] at hq ⊢; exact dquiet_mono (fun d hd => h d u hd) hq
theorem dhead_mono {P : Program} {ops : Array Oper} {S : St} {Q Q' : Fm → St → Prop} (h : ∀ f S, Q f S → Q' f S) : ∀ (l : List Oper) {f : Fm} {u : Option Ob}, dhead P ops S Q l f u → dhead P ops S Q' l f u
  | [], _, _, k => h _ _ k
  | o :: l, f, u, k => by
    unfold dhead at *
    split at k
    · exact hop_mono (fun d u' hd => dhead_mono h l hd) k
    · exact dwanted_mono (fun hq => dquiet_mono (fun d hd => dhead_mono h l hd) hq) (dhead_mono h l) k
theorem dwp_mono {P : Program} : ∀ (c : Code) {Q Q' : DQ} {f : Fm} {S : St}, (∀ e f S, Q e f S → Q' e f S) → dwp P c Q f S → dwp P c Q' f S := by
  intro c
  induction c with
  | region id ops draw =>
    intro Q Q' f S h k
    cases draw with
    | false => exact dops_mono (h .normal) _ k
    | true =>
      rcases k with ⟨n, h1, h2⟩ | ⟨Zs, n, h1, h2, h3⟩
      · exact .inl ⟨n, h1, dhead_mono (fun f' S' hf' => dops_mono (h .normal) _ hf') _ h2⟩
      · exact .inr ⟨Zs, n, h1, h2, sAny_mono (fun f' S' hf' => dops_mono (h .normal) _ hf') _ _ h3⟩
  | seq x y ihx ihy =>
    intro Q Q' f S h k
    refine ihx (fun e f2 S2 hq => ?_) k
    cases e with
    | normal =>
      have hq' : dwp P y Q f2 S2 := hq
      have h3 : dwp P y Q' f2 S2 := ihy (f := f2) (S := S2) h hq'
      exact h3
    | exit i => exact h _ _ _ hq
    | ret => exact h _ _ _ hq
  | cond g x y ihx ihy =>
    intro Q Q' f S h k
    unfold dwp at k ⊢
    generalize ev f g = u at k ⊢
    cases u with
    | v u => cases u with
      | bool b => exact ⟨fun e => ihx h (k.1 e), fun e => ihy h (k.2 e)⟩
      | _ => exact k
    | _ => exact k
  | block id c ih =>
    intro Q Q' f S h k
    refine ih (fun e f S hq => ?_) k
    cases e with
    | normal => exact h _ _ _ hq
    | ret => exact h _ _ _ hq
    | exit i =>
      simp only [DQ.block] at *
      cases hb : Nat.beq i id with
      | true => rw [hb] at hq; exact h _ _ _ hq
      | false => rw [hb] at hq; exact h _ _ _ hq
  | loop c ih =>
    intro Q Q' f S h k
    obtain ⟨I, μ, h0, hr⟩ := k
    refine ⟨I, μ, h0, fun g T hI => ih (fun e f S hq => ?_) (hr g T hI)⟩
    cases e with
    | normal => exact hq
    | exit i => exact h _ _ _ hq
    | ret => exact h _ _ _ hq
  | skip => intro Q Q' f S h k; exact h _ _ _ k
  | label l => intro Q Q' f S h k; exact h _ _ _ k
  | exit i => intro Q Q' f S h k; exact h _ _ _ k
  | ret => intro Q Q' f S h k; exact h _ _ _ k
  | rangeFunc x ps aa b _ _ => intro Q Q' f S _ k; exact k.elim
  | scope c _ => intro Q Q' f S _ k; exact k.elim
  | goto l => intro Q Q' f S _ k; exact k.elim
  | refuse s => intro Q Q' f S _ k; exact k.elim
theorem dpure_of_dwp {P : Program} (hm : P.follows .mixedOrders = true) {g : FuncId} {fn : Func} {c : Code} (hf : P.funcs[g]? = some fn) (hb : fn.body = some c) (hent : ∀ vs w, (callFunc g vs).run P w = .ok (.enter g vs) w) {rs : List ResultVar} (hrs : fn.results.toList = rs) {args : List D} (hok : (codeOk fn.ntmps c && fn.results.all (resOk fn.ntmps) && Nat.ble args.length fn.ntmps) = true) {d : D} (hc : d.closed)
    (h : ∀ S : St, S.WF → dwp P c (DQ.pfin P rs S d) (argF args) S) : DPure P g args d := fun S =>
  dcalls_of_dwp hm hf hb hent hrs hok fun hw => dwp_mono c (pfin_fin hw hc) (h S hw)
end Go.Proofs.YtonncfminojejaaGreatDoor
