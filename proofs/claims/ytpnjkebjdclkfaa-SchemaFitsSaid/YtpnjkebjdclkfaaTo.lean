/- Operations on trees that leave memory alone: what each yields, and that the machine yields it. Conditions: none. -/
import Derived.Test.YtpnjkebjdclkfaaTd
namespace Go.Proofs.Ytpnjkebjdclkfaa
open Go.RowKit

/-- What a computation without memory yields. -/
def pureRun {α : Type} (P : Program) : Sem α → Option α
  | .pure a => some a
  | .program k => pureRun P (k P)
  | .mark _ k => pureRun P k
  | _ => none
theorem pureRun_run {α : Type} {P : Program} {s : Sem α} {x : α} (w : World) (h : pureRun P s = some x) : s.run P w = .ok x w := by
  induction s with
  | pure a => simp [pureRun] at h; subst h; rfl
  | program k ih => simp only [pureRun] at h; simp only [Sem.run]; exact ih _ h
  | mark m k ih => simp only [pureRun] at h; simp only [Sem.run]; exact ih h
  | _ => simp [pureRun] at h

/-- Constants. -/
def ofV : Value → D
  | .slice none 0 0 => .sl .full []
  | x => .v x
abbrev Fm := Nat → D
def put (f : Fm) : Option Tmp → D → Fm
  | none, _ => f
  | some t, d => fun i => bif Nat.beq i t then d else f i
def ev (f : Fm) : Operand → D
  | .tmp t => f t
  | .const v => ofV v
  | .global g => .v (.pointer (some ⟨g, 0, none⟩))
  | .func g => .fn (.func g) [] []
def okT (P : Program) (t : TypeId) : Bool := (P.underlying t).isSome && (P.info? t).isSome
def aggT (P : Program) (t : TypeId) : Bool := match P.underlying t with
  | some (.struct _) | some (.array _ _) => true
  | _ => false
def fld (P : Program) (t : TypeId) (i : Nat) : Option (Nat × TypeId) := match P.underlying t with
  | some (.struct fs) => (fs[i]?).map fun f => (f.offset, f.type)
  | _ => none
def elT (P : Program) (t : TypeId) : Option TypeId := match P.underlying t with
  | some (.slice e) => some e
  | _ => none
def arT (P : Program) (t : TypeId) : Option (Nat × TypeId) := match P.underlying t with
  | some (.array n e) => some (n, e)
  | _ => none
def strT (P : Program) (t : TypeId) : Bool := match P.underlying t with
  | some .string => true
  | _ => false
def ifaceT (P : Program) (t : TypeId) : Bool := match P.underlying t with
  | some (.interface _) => true
  | _ => false
def rdOk (P : Program) (t : TypeId) (cs : List D) (off : Nat) : Prop := okT P t = true ∧ (bif aggT P t then off + szOf P t ≤ cs.length else off < cs.length)
def rdVal (P : Program) (t : TypeId) (cs : List D) (off : Nat) : D := bif aggT P t then .agg ((cs.drop off).take (szOf P t)) else cs.getD off undefD

def bnd (f : Fm) (o : Option Operand) (d : Int) : Option Int := match o with
  | none => some d
  | some x => match ev f x with
    | .v (.int _ i) => some i
    | _ => none
def vals : List D → Option (List Value)
  | [] => some []
  | .v x :: l => (vals l).map (x :: ·)
  | _ => none
def isConstB : Operand → Bool
  | .const _ => true
  | _ => false
def dbin (P : Program) (op : BinOp) (t : TypeId) (x y : Operand) (a b : D) : Option (Prop × D) := match a, b with
  | .v a, .v b => (pureRun P (do eqGuard op t x y a b; binOp op t a b)).map fun r => (True, .v r)
  | .ifc _ _, .v .nilIface | .v .nilIface, .ifc _ _ => match op with
    | .eql => some (ifaceT P t = true, .v (.bool false))
    | .neq => some (ifaceT P t = true, .v (.bool true))
    | _ => none
  | _, _ => none
def dlen (P : Program) (b : Builtin) (ts : Array TypeId) (a : List D) : Option (Prop × D) := match b, a with
  | .len, [.sl _ es] => some ((ts[0]?.bind (elT P)).isSome = true, .v (.int .i64 es.length))
  | .cap, [.sl .full es] => some ((ts[0]?.bind (elT P)).isSome = true, .v (.int .i64 es.length))
  | _, _ => none
def dbuiltin (P : Program) (b : Builtin) (ts : Array TypeId) (ty : TypeId) (cs : Array Bool) (a : List D) : Option (Prop × D) := match vals a with
  | some vs => match pureRun P (builtin b ts ty cs vs.toArray) with
    | some (.value r) => some (True, .v r)
    | _ => dlen P b ts a
  | none => dlen P b ts a

/-- What an operation yields that leaves memory alone, and on what condition. -/
def dval (P : Program) (f : Fm) (S : St) (ty : TypeId) : Op → Option (Prop × D)
  | .move x | .assign x => some (True, ev f x)
  | .pick c a b => match ev f c with
    | .v (.bool t) => some (True, bif t then ev f a else ev f b)
    | _ => none
  | .load t a => match ev f a with
    | .loc k off => match S.ob k with
      | some (.box _ cs) => some (rdOk P t cs off, rdVal P t cs off)
      | _ => none
    | .rd cs off => some (rdOk P t cs off, rdVal P t cs off)
    | _ => none
  | .fieldAddr t x i => match fld P t i with
    | some (fo, ft) => match ev f x with
      | .loc k off => some (okT P ft = true ∧ szOf P ft ≠ 0, .loc k (off + fo))
      | .rd cs off => some (okT P ft = true ∧ szOf P ft ≠ 0, .rd cs (off + fo))
      | _ => none
    | none => none
  | .field t x i => match fld P t i with
    | some (fo, ft) => match ev f x with
      | .agg cs => some (rdOk P ft cs fo, rdVal P ft cs fo)
      | _ => none
    | none => none
  | .indexAddr t x ix => match ev f ix with
    | .v (.int _ i) => match ev f x with
      | .sl _ es => match elT P t with
        | some e => some (okT P e = true ∧ 0 ≤ i ∧ i < es.length ∧ (es.getD i.toNat undefD).width = szOf P e, .rd (es.getD i.toNat undefD).cells 0)
        | none => none
      | .loc k off => match arT P t with
        | some (n, e) => some (okT P e = true ∧ 0 ≤ i ∧ i < n, .loc k (off + i.toNat * szOf P e))
        | none => none
      | .rd cs off => match arT P t with
        | some (n, e) => some (okT P e = true ∧ 0 ≤ i ∧ i < n, .rd cs (off + i.toNat * szOf P e))
        | none => none
      | _ => none
    | _ => none
  | .index t x ix => match ev f ix with
    | .v (.int _ i) => match ev f x with
      | .agg cs => match arT P t with
        | some (n, e) => some (0 ≤ i ∧ i < n ∧ rdOk P e cs (i.toNat * szOf P e), rdVal P e cs (i.toNat * szOf P e))
        | none => none
      | .v (.string s) => some (strT P t = true ∧ 0 ≤ i ∧ i < s.size, .v (.int .u8 (s.data.toList.getD i.toNat 0).toNat))
      | _ => none
    | _ => none
  | .extract x i => match ev f x with
    | .tup ds => some (i < ds.length, ds.getD i undefD)
    | _ => none
  | .makeFunc fn fs cs => some (True, .fn fn (fs.toList.map (ev f)) (cs.toList.map (ev f)))
  | .makeInterface t x => some ((P.underlying t).isSome = true ∧ ifaceT P t = false, .ifc t (ev f x))
  | .nilCheck x => match ev f x with
    | .loc k off => some (True, .loc k off)
    | .rd cs off => some (True, .rd cs off)
    | .fn (.func g) fs cs => some (True, .fn (.func g) fs cs)
    | _ => none
  | .slice t x lo hi none => match ev f x with
    | .sl _ es => match elT P t with
      | some e => match bnd f lo 0 with
        | some l => match bnd f hi es.length with
          | some h => some (okT P e = true ∧ 0 ≤ l ∧ l ≤ h ∧ h ≤ es.length ∧ (l = 0 ∨ ∀ d ∈ es, d.width = szOf P e), .sl .no ((es.take h.toNat).drop l.toNat))
          | none => none
        | none => none
      | none => none
    | .v (.string s) => match bnd f lo 0 with
      | some l => match bnd f hi s.size with
        | some h => some (strT P t = true ∧ 0 ≤ l ∧ l ≤ h ∧ h ≤ s.size, .v (.string (s.extract l.toNat h.toNat)))
        | none => none
      | none => none
    | _ => none
  | .slice t x lo hi (some mx) => match ev f x with
    | .sl _ es => match elT P t with
      | some e => match bnd f lo 0 with
        | some l => match bnd f hi es.length with
          | some h => match bnd f (some mx) 0 with
            | some m => some (okT P e = true ∧ 0 ≤ l ∧ l ≤ h ∧ h = m ∧ h ≤ es.length ∧ hi.isSome = true ∧ (l = 0 ∨ ∀ d ∈ es, d.width = szOf P e), .sl .full ((es.take h.toNat).drop l.toNat))
            | none => none
          | none => none
        | none => none
      | none => none
    | _ => none
  | .binOp op t x y _ => dbin P op t x y (ev f x) (ev f y)
  | .unOp op _ x => match ev f x with
    | .v a => (pureRun P (Op.unary op a)).map fun r => (True, .v r)
    | _ => none
  | .convert s d x => match ev f x with
    | .v a => (pureRun P (convert s d a)).map fun r => (True, .v r)
    | _ => none
  | .call c => match c.callee with
    | .builtin b => dbuiltin P b c.argTypes ty (c.args.map isConstB) (c.args.toList.map (ev f))
    | _ => none
  | _ => none

/-! ### That the machine yields it -/
section
variable {P : Program} {w : World} {η : Names} {X : Nat → Nat → Prop} {f : Fm} {a : Act} {S : St} {base : Nat}
theorem Rep.ofV (x : Value) : Rep P w η X (ofV x) x := by
  unfold Go.Proofs.Ytpnjkebjdclkfaa.ofV
  split
  · simp only [Rep]
    exact ⟨none, 0, rfl, Nat.le_refl _, by simp, rfl, fun h => absurd h (by simp)⟩
  · simp only [Rep]
/-- The frame as trees. -/
def RepF (P : Program) (w : World) (η : Names) (X : Nat → Nat → Prop) (f : Fm) (a : Act) : Prop := ∀ t, t < a.tmps.size → Rep P w η X (f t) (a.tmps.getD t undef)
def opnOk (n : Nat) : Operand → Bool
  | .tmp t => Nat.blt t n
  | _ => true
theorem RepF.ev (h : RepF P w η X f a) {x : Operand} (hx : opnOk a.tmps.size x = true) : Rep P w η X (ev f x) (a.eval x) := by
  cases x with
  | tmp t => exact h t (by simpa [opnOk, Nat.blt_eq] using hx)
  | const v => exact Rep.ofV v
  | global g => simp only [Proofs.Ytpnjkebjdclkfaa.ev, Rep]; rfl
  | func g => simp only [Proofs.Ytpnjkebjdclkfaa.ev, Rep, RepL]; exact ⟨[], [], rfl, rfl, rfl⟩
theorem RepF.put (h : RepF P w η X f a) {d : D} {v : Value} (hd : Rep P w η X d v) (o : Option Tmp) : RepF P w η X (put f o d) (a.put o v) := by
  cases o with
  | none => exact h
  | some t =>
    intro i hi
    have hi' : i < a.tmps.size := by simpa [Act.put] using hi
    simp only [Proofs.Ytpnjkebjdclkfaa.put, Act.put]
    by_cases e : i = t
    · subst e
      simpa [Nat.beq_eq_true_eq, hi'] using hd
    · have hb : Nat.beq i t = false := by
        cases h : Nat.beq i t with
        | false => rfl
        | true => exact absurd (Nat.eq_of_beq_eq_true h) e
      have := h i hi'
      simpa [hb, Array.getElem?_setIfInBounds_ne (Ne.symm e)] using this
theorem okT_spec {t : TypeId} (h : okT P t = true) : ∃ d i, P.underlying t = some d ∧ P.info? t = some i ∧ szOf P t = i.size := by
  simp only [okT, Bool.and_eq_true, Option.isSome_iff_exists] at h
  obtain ⟨⟨d, hd⟩, i, hi⟩ := h
  exact ⟨d, i, hd, hi, by simp [szOf, hi]⟩
theorem aggT_spec {t : TypeId} {d : TypeDesc} (h : P.underlying t = some d) : aggT P t = d.isRow := by
  unfold aggT
  rw [h]
  cases d <;> rfl
theorem run_load_cells {t : TypeId} {cs : List D} {b o off : Nat} (hok : rdOk P t cs off) (h : RepC P w η X cs b o) :
    ∃ v, (Instr.loadAt t (.pointer (some ⟨b, o + off, none⟩))).run P w = .ok v w ∧ Rep P w η X (rdVal P t cs off) v := by
  obtain ⟨h1, h2⟩ := hok
  obtain ⟨d, i, hu, hi, hsz⟩ := okT_spec h1
  cases hg : aggT P t with
  | true =>
    simp only [hg, cond_true] at h2
    obtain ⟨vs, k1, k2, k3, k4⟩ := ((h.drop off).take (szOf P t)).range
    have hl : vs.length = szOf P t := by rw [k1, List.length_take, List.length_drop]; omega
    refine ⟨.agg vs.toArray, run_loadAt_mid w b (o + off) t vs d k2 hu (by rw [← aggT_spec hu, hg]) (by rw [hi]; simp [hl, hsz]), ?_⟩
    simp only [rdVal, hg, cond_true, Rep]
    exact ⟨vs, rfl, k3, k4⟩
  | false =>
    simp only [hg, cond_false] at h2
    have hdr := h.drop off
    rw [List.drop_eq_getElem_cons h2] at hdr
    simp only [RepC] at hdr
    obtain ⟨⟨_, x, hx, _, hr⟩, _⟩ := hdr
    refine ⟨x, ?_, ?_⟩
    · have hn := aggT_spec hu
      rw [hg] at hn
      have hagg : (isAgg t).run P w = .ok false w := by
        unfold isAgg
        rw [Sem.run_bind, run_underlying hu w]
        cases d <;> simp_all
      simp [Instr.loadAt, Instr.sureAddr, loadVar, Sem.run_bind, hagg, load, Sem.run, hx]
    · simp only [rdVal, hg, cond_false]
      rw [List.getD_eq_getElem?_getD, List.getElem?_eq_getElem h2]
      exact hr
theorem run_part_cells {t : TypeId} {cs : List D} {vs : List Value} {off : Nat} (hok : rdOk P t cs off) (h : RepL P w η X cs vs) (h1 : ∀ x ∈ vs, x.oneCell' = true) :
    ∃ v, (part t vs.toArray off).run P w = .ok v w ∧ Rep P w η X (rdVal P t cs off) v := by
  obtain ⟨h1', h2⟩ := hok
  obtain ⟨d, i, hu, hi, hsz⟩ := okT_spec h1'
  have hl := h.length
  have hn := aggT_spec hu
  have hagg : (isAgg t).run P w = .ok (aggT P t) w := by
    unfold isAgg
    rw [Sem.run_bind, run_underlying hu w]
    rw [hn]
    cases d <;> rfl
  cases hg : aggT P t with
  | true =>
    simp only [hg, cond_true] at h2
    refine ⟨.agg ((vs.drop off).take (szOf P t)).toArray, ?_, ?_⟩
    · rw [hg] at hagg
      simp [part, Sem.run_bind, hagg, sizeOf, typeInfo, hi, hsz]
    · simp only [rdVal, hg, cond_true, Rep]
      exact ⟨_, rfl, (h.drop off).take _, fun x hx => h1 x (List.mem_of_mem_drop (List.mem_of_mem_take hx))⟩
  | false =>
    simp only [hg, cond_false] at h2
    obtain ⟨x, hx, hr⟩ := h.get off (List.getElem?_eq_getElem h2)
    refine ⟨x, ?_, ?_⟩
    · rw [hg] at hagg
      have hlt : off < vs.length := by omega
      rw [List.getElem?_eq_getElem hlt] at hx
      simp [part, Sem.run_bind, hagg, hx, List.getElem?_eq_getElem hlt]
    · simp only [rdVal, hg, cond_false]
      rw [List.getD_eq_getElem?_getD, List.getElem?_eq_getElem h2]
      exact hr
theorem vals_rep : ∀ {l : List D} {vs us : List Value}, vals l = some vs → RepL P w η X l us → us = vs
  | [], vs, us, h, k => by simp only [RepL] at k; simp [vals] at h; rw [k, h]
  | d :: l, vs, us, h, k => by
    simp only [RepL] at k
    obtain ⟨x, xs, rfl, k1, k2⟩ := k
    cases d <;> simp only [vals] at h <;> try (cases h; done)
    rename_i y
    simp only [Rep] at k1
    subst k1
    cases hv : vals l with
    | none => rw [hv] at h; cases h
    | some ws =>
      rw [hv] at h
      simp at h
      rw [vals_rep hv k2, h]
theorem repL_map (h : RepF P w η X f a) : ∀ {l : List Operand}, (∀ x ∈ l, opnOk a.tmps.size x = true) → RepL P w η X (l.map (ev f)) (l.map a.eval)
  | [], _ => by simp [RepL]
  | x :: l, hx => by
    simp only [List.map_cons, RepL]
    exact ⟨_, _, rfl, h.ev (hx x (by simp)), repL_map h fun y hy => hx y (by simp [hy])⟩

theorem elT_spec {t e : TypeId} (h : elT P t = some e) : P.underlying t = some (.slice e) := by
  unfold elT at h
  split at h
  · injection h with h; subst h; assumption
  · cases h
theorem arT_spec {t e : TypeId} {n : Nat} (h : arT P t = some (n, e)) : P.underlying t = some (.array n e) := by
  unfold arT at h
  split at h
  · injection h with h; injection h with h1 h2; subst h1 h2; assumption
  · cases h
theorem strT_spec {t : TypeId} (h : strT P t = true) : P.underlying t = some .string := by
  unfold strT at h
  split at h
  · assumption
  · cases h
theorem fld_spec {t ft : TypeId} {i fo : Nat} (h : fld P t i = some (fo, ft)) : ∃ fs fd, P.underlying t = some (.struct fs) ∧ fs[i]? = some fd ∧ fd.offset = fo ∧ fd.type = ft := by
  unfold fld at h
  split at h
  · rename_i fs hfs
    cases hx : fs[i]? with
    | none => rw [hx] at h; cases h
    | some fd =>
      rw [hx] at h
      simp at h
      exact ⟨fs, fd, hfs, hx, h.1, h.2⟩
  · cases h
theorem run_fieldAt {t ft : TypeId} {i fo b o : Nat} (h : fld P t i = some (fo, ft)) (hok : okT P ft = true ∧ szOf P ft ≠ 0) : (Instr.fieldAt t (.pointer (some ⟨b, o, none⟩)) i).run P w = .ok (.pointer (some ⟨b, o + fo, none⟩)) w := by
  obtain ⟨fs, fd, h1, h2, h3, h4⟩ := fld_spec h
  obtain ⟨h5, h6⟩ := hok
  obtain ⟨d, ti, h7, h8, h9⟩ := okT_spec h5
  subst h4
  rw [h9] at h6
  simp [Instr.fieldAt, Sem.run_bind, run_underlying h1, h2, Instr.sureAddr, fieldPlace, sizeOf, typeInfo, h8, h6, Addr.add_lit, h3]
theorem run_indexAt_slice {t e : TypeId} {k : IntKind} {i : Int} {b o n c : Nat} (h : elT P t = some e) (he : okT P e = true) (h0 : 0 ≤ i) (h1 : i < n) : (Instr.indexAt t (.slice (some ⟨b, o, none⟩) n c) (.int k i)).run P w = .ok (.pointer (some ⟨b, o + i.toNat * szOf P e, none⟩)) w := by
  have hu := elT_spec h
  obtain ⟨d, ti, h7, h8, h9⟩ := okT_spec he
  simp [Instr.indexAt, Sem.run_bind, asIntOf, run_underlying hu, h0, h1, sizeOf, typeInfo, h8, h9, Addr.add_lit]
theorem run_indexAt_array {t e : TypeId} {k : IntKind} {i : Int} {b o n : Nat} (h : arT P t = some (n, e)) (he : okT P e = true) (h0 : 0 ≤ i) (h1 : i < n) : (Instr.indexAt t (.pointer (some ⟨b, o, none⟩)) (.int k i)).run P w = .ok (.pointer (some ⟨b, o + i.toNat * szOf P e, none⟩)) w := by
  have hu := arT_spec h
  obtain ⟨d, ti, h7, h8, h9⟩ := okT_spec he
  simp [Instr.indexAt, Instr.sureAddr, Sem.run_bind, asIntOf, run_underlying hu, h0, h1, sizeOf, typeInfo, h8, h9, Addr.add_lit]
theorem bnd_spec (h : RepF P w η X f a) {o : Option Operand} (ho : ∀ x, o = some x → opnOk a.tmps.size x = true) {d i : Int} (hb : bnd f o d = some i) : (o = none ∧ i = d) ∨ ∃ k, o.map a.eval = some (.int k i) := by
  cases o with
  | none => left; simp [bnd] at hb; exact ⟨rfl, hb.symm⟩
  | some x =>
    right
    have := h.ev (ho x rfl)
    unfold bnd at hb
    simp only at hb
    split at hb
    · rename_i k j hx
      rw [hx] at this
      simp only [Rep] at this
      injection hb with hb
      exact ⟨k, by simp [this, hb]⟩
    · cases hb
theorem run_bounds (h : RepF P w η X f a) {lo hi : Option Operand} (hlo : ∀ x, lo = some x → opnOk a.tmps.size x = true) (hhi : ∀ x, hi = some x → opnOk a.tmps.size x = true) (isS : Bool) {len cap : Nat} {l m : Int} (hl : bnd f lo 0 = some l) (hm : bnd f hi len = some m)
    (h0 : 0 ≤ l) (h1 : l ≤ m) (h2 : m ≤ len) (h3 : len ≤ cap) : (Instr.sliceBounds isS len cap (lo.map a.eval) (hi.map a.eval) none).run P w = .ok (l.toNat, m.toNat, cap) w := by
  rcases bnd_spec h hlo hl with ⟨rfl, rfl⟩ | ⟨k, e1⟩ <;> rcases bnd_spec h hhi hm with ⟨rfl, rfl⟩ | ⟨k', e2⟩
  · simp [Instr.sliceBounds]
  · have : m ≤ (cap : Int) := by omega
    simp [Instr.sliceBounds, e2, Instr.sliceBound, asIntOf, h1, this]
  · have : l ≤ (len : Int) := by omega
    simp [Instr.sliceBounds, e1, Instr.sliceBound, asIntOf, h0, this]
  · have h4 : m ≤ (cap : Int) := by omega
    have h5 : 0 ≤ m := by omega
    have h6 : l ≤ max m 0 := by omega
    simp [Instr.sliceBounds, e1, e2, Instr.sliceBound, asIntOf, h0, h4, h5, h6]
/-- A part of a slice. -/
theorem Rep.part {A : Option Addr} {n c l h : Nat} {es : List D} {z : Nat} {own : Own} (hz : es.length = n) (h1 : l ≤ h) (h2 : h ≤ n) (hc : n ≤ c) (hb : n ≤ 140737488355328) (hw : l = 0 ∨ ∀ d ∈ es, d.width = z)
    (hE : 0 < n → ∃ b o z, A = some ⟨b, o, none⟩ ∧ 0 < z ∧ RepE P w η X z es b o) {m : Nat} (hm : h ≤ m) (hown : OwnAt P w η (if m = l then A else A.map (·.add (l * z))) (h - l) (m - l) own) :
    Rep P w η X (.sl own ((es.take h).drop l)) (.slice (if m = l then A else A.map (·.add (l * z))) (h - l) (m - l)) := by
  have hlen : ((es.take h).drop l).length = h - l := by rw [List.length_drop, List.length_take]; omega
  simp only [Rep]
  refine ⟨_, m - l, by rw [hlen], by omega, by omega, by rw [hlen]; exact hown, fun h0 => ?_⟩
  rw [hlen] at h0
  obtain ⟨b, o, z', hA, h0z, hr⟩ := hE (by omega)
  rw [if_neg (by omega), hA]
  have hzz : l = 0 ∨ z' = z := by
    rcases hw with hw | hw
    · exact .inl hw
    · right
      cases es with
      | nil =>
        exfalso
        have hz0 : (0 : Nat) = n := hz
        clear hr hE hA hw hown hlen
        omega
      | cons d es =>
        have := (RepE.cons.1 hr).1.cells.1
        rw [← this]
        exact hw d (by simp)
  refine ⟨b, o + l * z, z', by simp [Addr.add_lit], h0z, RepE.mk fun i d hi => ?_⟩
  have hi' : es[l + i]? = some d := by
    rw [List.getElem?_drop, List.getElem?_take] at hi
    split at hi
    · exact hi
    · cases hi
  have := RepE.get (l + i) hr hi'
  rcases hzz with rfl | rfl
  · simpa using this
  · rwa [show o + l * z' + i * z' = o + (l + i) * z' by rw [Nat.add_mul]; omega]
theorem run_slice_part {t e : TypeId} {A : Option Addr} {n c l h m : Nat} {lo hi mx : Option Value} (ht : elT P t = some e) (he : okT P e = true) (hb : (Instr.sliceBounds true n c lo hi mx).run P w = .ok (l, h, m) w) :
    (Instr.sliceAt t (.slice A n c) lo hi mx).run P w = .ok (.slice (if m = l then A else A.map (·.add (l * szOf P e))) (h - l) (m - l)) w := by
  have hu := elT_spec ht
  obtain ⟨d, ti, h7, h8, h9⟩ := okT_spec he
  simp [Instr.sliceAt, Instr.slice, Sem.run_bind, run_underlying hu, hb, sizeOf, typeInfo, h8, h9]

def opsOk (n : Nat) (op : Op) : Bool := op.operands.all (opnOk n)
theorem opsOk_spec {n : Nat} {op : Op} (h : opsOk n op = true) : ∀ x ∈ op.operands, opnOk n x = true := Array.all_eq_true_iff_forall_mem.1 h
theorem map_some_eq {α β : Type} {o : Option α} {g : α → β} {y : β} (h : o.map g = some y) : ∃ x, o = some x ∧ g x = y := by
  cases o with
  | none => cases h
  | some x => injection h with h; exact ⟨x, rfl, h⟩
theorem dval_index (hf : RepF P w η X f a) {o : Oper} (hop : ∀ x ∈ o.op.operands, opnOk a.tmps.size x = true) (t : TypeId) (x ix : Operand) (ho : o.op = .indexAddr t x ix) {c : Prop} {d : D} (h : dval P f S o.type o.op = some (c, d)) (hc : c) :
    ∃ v, (execOp a.eval o).run P w = .ok (.value v) w ∧ Rep P w η X d v := by
  rw [ho] at h hop
  have h1 := hf.ev (hop x (by simp [Op.operands]))
  have h2 := hf.ev (hop ix (by simp [Op.operands]))
  simp only [dval] at h
  split at h
  · rename_i k i hi
    rw [hi] at h2
    simp only [Rep] at h2
    split at h
    · rename_i own es hx
      rw [hx] at h1
      simp only [Rep] at h1
      obtain ⟨A, cap, e1, e2, e3, e4, e5⟩ := h1
      split at h
      · rename_i e he
        injection h with h
        injection h with hp hd
        subst hp hd
        obtain ⟨k1, k2, k3, k4⟩ := hc
        obtain ⟨b, p, z, rfl, hz, hr⟩ := e5 (by omega)
        have hlt : i.toNat < es.length := by omega
        have hget : es[i.toNat]? = some (es.getD i.toNat undefD) := by rw [List.getD_eq_getElem?_getD, List.getElem?_eq_getElem hlt]; rfl
        have hel := (RepE.get i.toNat hr hget).cells
        refine ⟨.pointer (some ⟨b, p + i.toNat * szOf P e, none⟩), ?_, ?_⟩
        · unfold execOp
          simp only [ho, e1, h2, Sem.run_bind, run_indexAt_slice he k1 k2 k3, Result.andThen_ok]
          rfl
        · simp only [Rep]
          refine ⟨b, p + i.toNat * szOf P e, rfl, ?_⟩
          have := hel.2
          rwa [← hel.1, k4] at this
      · cases h
    · rename_i kk off hx
      rw [hx] at h1
      simp only [Rep] at h1
      obtain ⟨b, e1, e2⟩ := h1
      split at h
      · rename_i n e he
        injection h with h
        injection h with hp hd
        subst hp hd
        obtain ⟨k1, k2, k3⟩ := hc
        refine ⟨.pointer (some ⟨b, off + i.toNat * szOf P e, none⟩), ?_, ?_⟩
        · unfold execOp
          simp only [ho, e2, h2, Sem.run_bind, run_indexAt_array he k1 k2 k3, Result.andThen_ok]
          rfl
        · simp only [Rep]
          exact ⟨b, e1, rfl⟩
      · cases h
    · rename_i cs off hx
      rw [hx] at h1
      simp only [Rep] at h1
      obtain ⟨b, p, e1, e2⟩ := h1
      split at h
      · rename_i n e he
        injection h with h
        injection h with hp hd
        subst hp hd
        obtain ⟨k1, k2, k3⟩ := hc
        refine ⟨.pointer (some ⟨b, p + off + i.toNat * szOf P e, none⟩), ?_, ?_⟩
        · unfold execOp
          simp only [ho, e1, h2, Sem.run_bind, run_indexAt_array he k1 k2 k3, Result.andThen_ok]
          rfl
        · simp only [Rep]
          exact ⟨b, p, by rw [Nat.add_assoc], e2⟩
      · cases h
    · cases h
  · cases h
theorem dval_slice (hf : RepF P w η X f a) {o : Oper} (hop : ∀ x ∈ o.op.operands, opnOk a.tmps.size x = true) (t : TypeId) (x : Operand) (lo hi : Option Operand) (ho : o.op = .slice t x lo hi none) {c : Prop} {d : D} (h : dval P f S o.type o.op = some (c, d)) (hc : c) :
    ∃ v, (execOp a.eval o).run P w = .ok (.value v) w ∧ Rep P w η X d v := by
  rw [ho] at h hop
  have h1 := hf.ev (hop x (by simp [Op.operands]))
  have hlo : ∀ y, lo = some y → opnOk a.tmps.size y = true := fun y hy => hop y (by simp [Op.operands, hy])
  have hhi : ∀ y, hi = some y → opnOk a.tmps.size y = true := fun y hy => hop y (by simp [Op.operands, hy])
  simp only [dval] at h
  split at h
  · rename_i own es hx
    rw [hx] at h1
    simp only [Rep] at h1
    obtain ⟨A, cap, e1, e2, e3, e4, e5⟩ := h1
    split at h
    · rename_i e he
      split at h
      · rename_i l hl
        split at h
        · rename_i m hm
          injection h with h
          injection h with hp hd
          subst hp hd
          obtain ⟨k1, k2, k3, k4, k5⟩ := hc
          have hb := run_bounds (P := P) (w := w) hf hlo hhi true hl hm k2 k3 k4 e2
          refine ⟨_, ?_, Rep.part (z := szOf P e) (m := cap) rfl (show l.toNat ≤ m.toNat by omega) (by omega) e2 e3 (by rcases k5 with k5 | k5; exact .inl (by omega); exact .inr k5) e5 (by omega) trivial⟩
          unfold execOp
          simp only [ho, e1, Sem.run_bind]
          rw [show Option.map a.eval (none : Option Operand) = none from rfl, run_slice_part he k1 hb]
          rfl
        · cases h
      · cases h
    · cases h
  · rename_i s hx
    rw [hx] at h1
    simp only [Rep] at h1
    split at h
    · rename_i l hl
      split at h
      · rename_i m hm
        injection h with h
        injection h with hp hd
        subst hp hd
        obtain ⟨k1, k2, k3, k4⟩ := hc
        have hb := run_bounds (P := P) (w := w) hf hlo hhi false hl hm k2 k3 k4 (Nat.le_refl _)
        refine ⟨_, ?_, by simp only [Rep]; rfl⟩
        have hu := strT_spec k1
        unfold execOp
        simp [ho, h1, Instr.sliceAt, Instr.slice, Sem.run_bind, run_underlying hu, hb]
      · cases h
    · cases h
  · cases h
theorem dval_slice3 (hf : RepF P w η X f a) {o : Oper} (hop : ∀ x ∈ o.op.operands, opnOk a.tmps.size x = true) (t : TypeId) (x : Operand) (lo hi : Option Operand) (mx : Operand) (ho : o.op = .slice t x lo hi (some mx)) {c : Prop} {d : D} (h : dval P f S o.type o.op = some (c, d)) (hc : c) :
    ∃ v, (execOp a.eval o).run P w = .ok (.value v) w ∧ Rep P w η X d v := by
  rw [ho] at h hop
  have h1 := hf.ev (hop x (by simp [Op.operands]))
  have hlo : ∀ y, lo = some y → opnOk a.tmps.size y = true := fun y hy => hop y (by simp [Op.operands, hy])
  have hhi : ∀ y, hi = some y → opnOk a.tmps.size y = true := fun y hy => hop y (by simp [Op.operands, hy])
  have hmx : ∀ y, some mx = some y → opnOk a.tmps.size y = true := fun y hy => hop y (by simp [Op.operands, hy])
  simp only [dval] at h
  split at h
  · rename_i own es hx
    rw [hx] at h1
    simp only [Rep] at h1
    obtain ⟨A, cap, e1, e2, e3, e4, e5⟩ := h1
    split at h
    · rename_i e he
      split at h
      · rename_i l hl
        split at h
        · rename_i m hm
          split at h
          · rename_i q hq
            injection h with h
            injection h with hp hd
            subst hp hd
            obtain ⟨k1, k2, k3, k4, k5, k6, k7⟩ := hc
            subst k4
            have hb : (Instr.sliceBounds true es.length cap (lo.map a.eval) (hi.map a.eval) (some (a.eval mx))).run P w = .ok (l.toNat, m.toNat, m.toNat) w := by
              obtain ⟨y, rfl⟩ := Option.isSome_iff_exists.1 k6
              rcases bnd_spec hf hhi hm with ⟨e, _⟩ | ⟨k', e2'⟩
              · cases e
              rcases bnd_spec hf hmx hq with ⟨e, _⟩ | ⟨k'', e3'⟩
              · cases e
              simp only [Option.map_some, Option.some.injEq] at e2' e3'
              have g1 : m ≤ (cap : Int) := by omega
              have g2 : (0 : Int) ≤ m := by omega
              have g3 : l ≤ max m 0 := by omega
              rcases bnd_spec hf hlo hl with ⟨rfl, rfl⟩ | ⟨k, e1'⟩
              · simp [Instr.sliceBounds, e2', e3', Instr.sliceBound, asIntOf, g1, g2]
                omega
              · simp [Instr.sliceBounds, e1', e2', e3', Instr.sliceBound, asIntOf, g1, g2, g3, k2]
                omega
            refine ⟨_, ?_, Rep.part (z := szOf P e) (m := m.toNat) rfl (show l.toNat ≤ m.toNat by omega) (by omega) e2 e3 (by rcases k7 with k7 | k7; exact .inl (by omega); exact .inr k7) e5 (Nat.le_refl _) rfl⟩
            unfold execOp
            simp only [ho, e1, Sem.run_bind]
            rw [show Option.map a.eval (some mx) = some (a.eval mx) from rfl, run_slice_part he k1 hb]
            rfl
          · cases h
        · cases h
      · cases h
    · cases h
  · cases h

theorem equal_iface_nil {t tt : TypeId} {q : Value} {ms : Array (String × TypeId)} (hm : P.underlying t = some (.interface ms)) : (Op.equal t (.iface tt q) .nilIface).run P w = .ok false w := by
  have key : ∀ d, (Op.equalIn (d + 1) t (.iface tt q) .nilIface).run P w = .ok false w := fun d => by
    simp only [Op.equalIn, Sem.run_bind, run_underlying hm, Result.andThen_ok]
    rfl
  exact key 9999
theorem equal_nil_iface {t tt : TypeId} {q : Value} {ms : Array (String × TypeId)} (hm : P.underlying t = some (.interface ms)) : (Op.equal t .nilIface (.iface tt q)).run P w = .ok false w := by
  have key : ∀ d, (Op.equalIn (d + 1) t .nilIface (.iface tt q)).run P w = .ok false w := fun d => by
    simp only [Op.equalIn, Sem.run_bind, run_underlying hm, Result.andThen_ok]
    rfl
  exact key 9999
theorem dbin_sound {op : BinOp} {t : TypeId} {x y : Operand} {d1 d2 : D} {u v : Value} (h1 : Rep P w η X d1 u) (h2 : Rep P w η X d2 v) {c : Prop} {d : D} (h : dbin P op t x y d1 d2 = some (c, d)) (hc : c) :
    ∃ r, (do eqGuard op t x y u v; binOp op t u v : Sem Value).run P w = .ok r w ∧ Rep P w η X d r := by
  unfold dbin at h
  split at h
  · rename_i p q
    simp only [Rep] at h1 h2
    subst h1 h2
    obtain ⟨r, hr, he⟩ := map_some_eq h
    injection he with _ he
    subst he
    exact ⟨r, pureRun_run w hr, by simp only [Rep]⟩
  · rename_i tt dd
    simp only [Rep] at h1 h2
    obtain ⟨q, rfl, _⟩ := h1
    subst h2
    split at h <;> try (cases h; done)
    all_goals
      injection h with h
      injection h with hp hd
      subst hp hd
      unfold ifaceT at hc
      split at hc <;> try (cases hc; done)
      rename_i ms hm
      refine ⟨_, ?_, by simp only [Rep]; rfl⟩
      simp [eqGuard, binOp, equal_iface_nil hm]
  · rename_i tt dd
    simp only [Rep] at h1 h2
    obtain ⟨q, rfl, _⟩ := h2
    subst h1
    split at h <;> try (cases h; done)
    all_goals
      injection h with h
      injection h with hp hd
      subst hp hd
      unfold ifaceT at hc
      split at hc <;> try (cases hc; done)
      rename_i ms hm
      refine ⟨_, ?_, by simp only [Rep]; rfl⟩
      simp [eqGuard, binOp, equal_nil_iface hm]
  · cases h
theorem dlen_sound {b : Builtin} {ts : Array TypeId} {ty : TypeId} {cs : Array Bool} {l : List D} {us : List Value} (hr : RepL P w η X l us) {c : Prop} {d : D} (h : dlen P b ts l = some (c, d)) (hc : c) :
    ∃ v, (builtin b ts ty cs us.toArray).run P w = .ok (.value v) w ∧ Rep P w η X d v := by
  unfold dlen at h
  split at h
  · rename_i own es
    injection h with h
    injection h with hp hd
    subst hp hd
    simp only [RepL, Rep] at hr
    obtain ⟨x, xs, rfl, ⟨A, cap, rfl, _⟩, rfl⟩ := hr
    obtain ⟨e, he⟩ := Option.isSome_iff_exists.1 hc
    cases ht : ts[0]? with
    | none => rw [ht] at he; cases he
    | some t =>
      rw [ht] at he
      have hu := elT_spec (t := t) he
      refine ⟨_, ?_, by simp only [Rep]; rfl⟩
      simp [builtin, Builtin.len_, ht, Sem.run_bind, run_underlying hu, goInt]
  · rename_i es
    injection h with h
    injection h with hp hd
    subst hp hd
    simp only [RepL, Rep, OwnAt] at hr
    obtain ⟨x, xs, rfl, ⟨A, cap, rfl, _, _, rfl, _⟩, rfl⟩ := hr
    obtain ⟨e, he⟩ := Option.isSome_iff_exists.1 hc
    cases ht : ts[0]? with
    | none => rw [ht] at he; cases he
    | some t =>
      rw [ht] at he
      have hu := elT_spec (t := t) he
      refine ⟨_, ?_, by simp only [Rep]; rfl⟩
      simp [builtin, Builtin.cap_, ht, Sem.run_bind, run_underlying hu, goInt]
  · cases h
theorem dbuiltin_sound {b : Builtin} {ts : Array TypeId} {ty : TypeId} {cs : Array Bool} {l : List D} {us : List Value} (hr : RepL P w η X l us) {c : Prop} {d : D} (h : dbuiltin P b ts ty cs l = some (c, d)) (hc : c) :
    ∃ v, (builtin b ts ty cs us.toArray).run P w = .ok (.value v) w ∧ Rep P w η X d v := by
  unfold dbuiltin at h
  split at h
  · rename_i vs hv
    have := vals_rep hv hr
    subst this
    split at h
    · rename_i r hp
      injection h with h
      injection h with _ hd
      subst hd
      exact ⟨r, pureRun_run w hp, by simp only [Rep]⟩
    · exact dlen_sound hr h hc
  · exact dlen_sound hr h hc
theorem run_builtin_op (ρ : Operand → Value) (dst : Option Tmp) (b : Builtin) (args : Array Operand) (ats : Array TypeId) (ty : TypeId) (pos : String) (after : Array Edge) (guard : Option (Nat × Bool)) :
    (execOp ρ ⟨dst, .call ⟨.builtin b, args, ats⟩, ty, pos, after, guard⟩).run P w = (builtin b ats ty (args.map isConstB) (args.map ρ)).run P w := by
  unfold execOp
  simp only [resolve, invoke, Sem.run_bind, Sem.run_pure, Result.andThen_ok]
  congr 2
set_option maxHeartbeats 1000000 in
theorem dval_sound (hM : Mem P base S η w) (hf : RepF P w η (Fix P S η) f a) {o : Oper} (hop : opsOk a.tmps.size o.op = true) {c : Prop} {d : D} (h : dval P f S o.type o.op = some (c, d)) (hc : c) :
    ∃ v, (execOp a.eval o).run P w = .ok (.value v) w ∧ Rep P w η (Fix P S η) d v := by
  have hop := opsOk_spec hop
  have rd : ∀ {t : TypeId} {cs : List D} {b off : Nat}, rdOk P t cs off → (∃ vs : List Value, w.rangeAt b 0 vs ∧ RepL P w η (Fix P S η) cs vs ∧ ∀ x ∈ vs, x.oneCell' = true) →
      ∃ v, (Instr.loadAt t (.pointer (some ⟨b, off, none⟩))).run P w = .ok v w ∧ Rep P w η (Fix P S η) (rdVal P t cs off) v := by
    intro t cs b off hok ⟨vs, hr, hl, h1⟩
    obtain ⟨h1', h2⟩ := hok
    obtain ⟨d, i, hu, hi, hsz⟩ := okT_spec h1'
    have hll := hl.length
    cases hg : aggT P t with
    | true =>
      simp only [hg, cond_true] at h2
      have hlen : ((vs.drop off).take (szOf P t)).length = szOf P t := by rw [List.length_take, List.length_drop]; omega
      refine ⟨.agg ((vs.drop off).take (szOf P t)).toArray, run_loadAt_mid w b off t _ d (fun j v hj => ?_) hu (by rw [← aggT_spec hu, hg]) (by rw [hi, hlen, hsz]; rfl), ?_⟩
      · rw [List.getElem?_take] at hj
        split at hj
        · rw [List.getElem?_drop] at hj
          have := hr (off + j) v hj
          rwa [Nat.zero_add] at this
        · cases hj
      · simp only [rdVal, hg, cond_true, Rep]
        exact ⟨_, rfl, (hl.drop off).take _, fun x hx => h1 x (List.mem_of_mem_drop (List.mem_of_mem_take hx))⟩
    | false =>
      simp only [hg, cond_false] at h2
      obtain ⟨x, hx, hrx⟩ := hl.get off (List.getElem?_eq_getElem h2)
      have hcell := hr off x hx
      rw [Nat.zero_add] at hcell
      refine ⟨x, ?_, ?_⟩
      · have hn := aggT_spec hu
        rw [hg] at hn
        have hagg : (isAgg t).run P w = .ok false w := by
          unfold isAgg
          rw [Sem.run_bind, run_underlying hu w]
          cases d <;> simp_all
        simp [Instr.loadAt, Instr.sureAddr, loadVar, Sem.run_bind, hagg, load, Sem.run, hcell]
      · simp only [rdVal, hg, cond_false]
        rw [List.getD_eq_getElem?_getD, List.getElem?_eq_getElem h2]
        exact hrx
  obtain ⟨dst, op, ty, pos, after, guard⟩ := o
  cases op with
  | move x =>
    simp only [dval] at h
    injection h with h; injection h with _ h; subst h
    exact ⟨_, rfl, hf.ev (hop x (by simp [Op.operands]))⟩
  | assign x =>
    simp only [dval] at h
    injection h with h; injection h with _ h; subst h
    exact ⟨_, rfl, hf.ev (hop x (by simp [Op.operands]))⟩
  | pick g x y =>
    simp only [dval] at h
    have h1 := hf.ev (hop g (by simp [Op.operands]))
    have h2 := hf.ev (hop x (by simp [Op.operands]))
    have h3 := hf.ev (hop y (by simp [Op.operands]))
    split at h
    · rename_i t ht
      rw [ht] at h1
      simp only [Rep] at h1
      injection h with h; injection h with _ h; subst h
      refine ⟨bif t then a.eval x else a.eval y, ?_, by cases t; exact h3; exact h2⟩
      unfold execOp
      simp only [h1, asBool]
      cases t <;> rfl
    · cases h
  | load t x =>
    simp only [dval] at h
    have h1 := hf.ev (hop x (by simp [Op.operands]))
    split at h
    · rename_i k off hx
      rw [hx] at h1
      simp only [Rep] at h1
      obtain ⟨b, e1, e2⟩ := h1
      split at h
      · rename_i t' cs hk
        injection h with h; injection h with hp hd; subst hp hd
        obtain ⟨vs, k1, k2, k3⟩ := hM.box k t' cs b hk e1
        obtain ⟨v, hv, hr⟩ := rd (b := b) (off := off) hc ⟨vs, fun j v hj => by rw [Nat.zero_add, cell_of_row w b j _ _ _ k1]; simpa using hj, k2, k3⟩
        refine ⟨v, ?_, hr⟩
        unfold execOp
        simp only [e2, Sem.run_bind, hv, Result.andThen_ok]
        rfl
      · cases h
    · rename_i cs off hx
      rw [hx] at h1
      simp only [Rep] at h1
      obtain ⟨b, p, e1, e2⟩ := h1
      injection h with h; injection h with hp hd; subst hp hd
      obtain ⟨v, hv, hr⟩ := run_load_cells (P := P) hc e2
      refine ⟨v, ?_, hr⟩
      unfold execOp
      simp only [e1, Sem.run_bind, hv, Result.andThen_ok]
      rfl
    · cases h
  | fieldAddr t x i =>
    simp only [dval] at h
    have h1 := hf.ev (hop x (by simp [Op.operands]))
    split at h
    · rename_i fo ft hfl
      split at h
      · rename_i k off hx
        rw [hx] at h1
        simp only [Rep] at h1
        obtain ⟨b, e1, e2⟩ := h1
        injection h with h; injection h with hp hd; subst hp hd
        refine ⟨.pointer (some ⟨b, off + fo, none⟩), ?_, by simp only [Rep]; exact ⟨b, e1, rfl⟩⟩
        unfold execOp
        simp only [e2, Sem.run_bind, run_fieldAt hfl hc, Result.andThen_ok]
        rfl
      · rename_i cs off hx
        rw [hx] at h1
        simp only [Rep] at h1
        obtain ⟨b, p, e1, e2⟩ := h1
        injection h with h; injection h with hp hd; subst hp hd
        refine ⟨.pointer (some ⟨b, p + off + fo, none⟩), ?_, by simp only [Rep]; exact ⟨b, p, by rw [Nat.add_assoc], e2⟩⟩
        unfold execOp
        simp only [e1, Sem.run_bind, run_fieldAt hfl hc, Result.andThen_ok]
        rfl
      · cases h
    · cases h
  | field t x i =>
    simp only [dval] at h
    have h1 := hf.ev (hop x (by simp [Op.operands]))
    split at h
    · rename_i fo ft hfl
      split at h
      · rename_i cs hx
        rw [hx] at h1
        simp only [Rep] at h1
        obtain ⟨vs, e1, e2, e3⟩ := h1
        injection h with h; injection h with hp hd; subst hp hd
        obtain ⟨v, hv, hr⟩ := run_part_cells (P := P) hc e2 e3
        obtain ⟨fs, fd, g1, g2, g3, g4⟩ := fld_spec hfl
        refine ⟨v, ?_, hr⟩
        unfold execOp
        simp [e1, Instr.field, Sem.run_bind, run_underlying g1, g2, asAgg, g3, g4, hv]
      · cases h
    · cases h
  | indexAddr t x ix => exact dval_index hf hop t x ix rfl h hc
  | index t x ix =>
    simp only [dval] at h
    have h1 := hf.ev (hop x (by simp [Op.operands]))
    have h2 := hf.ev (hop ix (by simp [Op.operands]))
    split at h
    · rename_i k i hi
      rw [hi] at h2
      simp only [Rep] at h2
      split at h
      · rename_i cs hx
        rw [hx] at h1
        simp only [Rep] at h1
        obtain ⟨vs, e1, e2, e3⟩ := h1
        split at h
        · rename_i n e he
          injection h with h; injection h with hp hd; subst hp hd
          obtain ⟨k1, k2, k3⟩ := hc
          obtain ⟨v, hv, hr⟩ := run_part_cells (P := P) k3 e2 e3
          have hu := arT_spec he
          obtain ⟨_, ti, _, h8, h9⟩ := okT_spec k3.1
          rw [h9] at hv
          refine ⟨v, ?_, hr⟩
          unfold execOp
          simp [e1, h2, Instr.index, Sem.run_bind, asIntOf, run_underlying hu, k1, k2, sizeOf, typeInfo, h8, hv]
        · cases h
      · rename_i s hx
        rw [hx] at h1
        simp only [Rep] at h1
        injection h with h; injection h with hp hd; subst hp hd
        obtain ⟨k1, k2, k3⟩ := hc
        have hu := strT_spec k1
        have hlt : i.toNat < s.size := by omega
        have hlt' : i.toNat < s.data.size := hlt
        refine ⟨_, ?_, by simp only [Rep]; rfl⟩
        unfold execOp
        simp [h1, h2, Instr.index, Sem.run_bind, asIntOf, run_underlying hu, k2, hlt]
        rfl
      · cases h
    · cases h
  | extract x i =>
    simp only [dval] at h
    have h1 := hf.ev (hop x (by simp [Op.operands]))
    split at h
    · rename_i ds hx
      rw [hx] at h1
      simp only [Rep] at h1
      obtain ⟨vs, e1, e2⟩ := h1
      injection h with h; injection h with hp hd; subst hp hd
      have hl := e2.length
      obtain ⟨v, hv, hr⟩ := e2.get i (List.getElem?_eq_getElem hc)
      have hlt : i < vs.length := by omega
      rw [List.getElem?_eq_getElem hlt] at hv
      injection hv with hv
      refine ⟨v, ?_, ?_⟩
      · unfold execOp
        simp [e1, Instr.extract, List.getElem?_eq_getElem hlt, hv]
      · rw [List.getD_eq_getElem?_getD, List.getElem?_eq_getElem hc]
        exact hr
    · cases h
  | makeFunc fn fs cs =>
    simp only [dval] at h
    injection h with h; injection h with _ hd; subst hd
    refine ⟨.func fn (fs.toList.map a.eval).toArray (cs.toList.map a.eval).toArray, ?_, ?_⟩
    · unfold execOp
      simp [Instr.makeFunc]
      exact ⟨by apply Array.ext'; simp, by apply Array.ext'; simp⟩
    · simp only [Rep]
      exact ⟨_, _, rfl, repL_map hf fun x hx => hop x (by simp only [Op.operands, Array.mem_append]; exact .inl (by simpa using hx)), repL_map hf fun x hx => hop x (by simp only [Op.operands, Array.mem_append]; exact .inr (by simpa using hx))⟩
  | makeInterface t x =>
    simp only [dval] at h
    injection h with h; injection h with hp hd; subst hp hd
    obtain ⟨k1, k2⟩ := hc
    obtain ⟨d', hu⟩ := Option.isSome_iff_exists.1 k1
    refine ⟨.iface t (a.eval x), ?_, by simp only [Rep]; exact ⟨_, rfl, hf.ev (hop x (by simp [Op.operands]))⟩⟩
    unfold execOp
    unfold ifaceT at k2
    rw [hu] at k2
    cases d' <;> first | (simp [Instr.makeInterface, Sem.run_bind, run_underlying hu]; done) | cases k2
  | nilCheck x =>
    simp only [dval] at h
    have h1 := hf.ev (hop x (by simp [Op.operands]))
    split at h
    · rename_i k off hx
      rw [hx] at h1
      injection h with h; injection h with _ hd; subst hd
      refine ⟨a.eval x, ?_, h1⟩
      simp only [Rep] at h1
      obtain ⟨b, e1, e2⟩ := h1
      unfold execOp
      simp [e2]
    · rename_i cs off hx
      rw [hx] at h1
      injection h with h; injection h with _ hd; subst hd
      refine ⟨a.eval x, ?_, h1⟩
      simp only [Rep] at h1
      obtain ⟨b, p, e1, e2⟩ := h1
      unfold execOp
      simp [e1]
    · rename_i g fs cs hx
      rw [hx] at h1
      injection h with h; injection h with _ hd; subst hd
      refine ⟨a.eval x, ?_, h1⟩
      simp only [Rep] at h1
      obtain ⟨us, vs, e1, e2, e3⟩ := h1
      unfold execOp
      simp [e1]
    · cases h
  | slice t x lo hi mx =>
    cases mx with
    | none => exact dval_slice hf hop t x lo hi rfl h hc
    | some mx => exact dval_slice3 hf hop t x lo hi mx rfl h hc
  | binOp op t x y yt =>
    simp only [dval] at h
    obtain ⟨r, hr, hR⟩ := dbin_sound (hf.ev (hop x (by simp [Op.operands]))) (hf.ev (hop y (by simp [Op.operands]))) h hc
    refine ⟨r, ?_, hR⟩
    unfold execOp
    simp only
    rw [Sem.run_bind, hr]
    rfl
  | unOp op t x =>
    simp only [dval] at h
    have h1 := hf.ev (hop x (by simp [Op.operands]))
    split at h
    · rename_i u hx
      rw [hx] at h1
      simp only [Rep] at h1
      obtain ⟨r, hr, he⟩ := map_some_eq h
      injection he with _ he
      subst he
      refine ⟨r, ?_, by simp only [Rep]⟩
      unfold execOp
      simp only [h1]
      rw [Sem.run_bind, pureRun_run w hr]
      rfl
    · cases h
  | convert s t x =>
    simp only [dval] at h
    have h1 := hf.ev (hop x (by simp [Op.operands]))
    split at h
    · rename_i u hx
      rw [hx] at h1
      simp only [Rep] at h1
      obtain ⟨r, hr, he⟩ := map_some_eq h
      injection he with _ he
      subst he
      refine ⟨r, ?_, by simp only [Rep]⟩
      unfold execOp
      simp only [h1]
      rw [Sem.run_bind, pureRun_run w hr]
      rfl
    · cases h
  | call cl =>
    obtain ⟨callee, args, ats⟩ := cl
    cases callee with
    | builtin b =>
      simp only [dval] at h
      have hr := repL_map hf (l := args.toList) fun x hx => hop x (by simp only [Op.operands, Call.operands, Array.mem_append]; exact .inr (by simpa using hx))
      obtain ⟨v, hv, hR⟩ := dbuiltin_sound hr h hc
      refine ⟨v, ?_, hR⟩
      have e : (args.toList.map a.eval).toArray = args.map a.eval := by apply Array.ext'; simp
      rw [e] at hv
      rw [run_builtin_op]
      exact hv
    | value x => simp [dval] at h
    | invoke r m => simp [dval] at h
  | _ => simp [dval] at h
end
end Go.Proofs.Ytpnjkebjdclkfaa
