/- Texts of a proof, part 7. Conditions: none. -/
import Derived.Test.YtjjhjhjphhpeiaaS6
set_option linter.unusedVariables false
set_option linter.unusedSimpArgs false
namespace Go.Proofs.Ytjjhjhjphhpeiaa
open Go.RowKit

section
variable {P : Program} {base : Nat} {S : St} {η : Names} {w : World}
theorem run_append_zeros (w : World) (t tx ty e : TypeId) (i : TypeInfo) (z : Value) (kk : IntKind) (ht : P.underlying t = some (.slice e)) (hi : P.info? e = some i) (hz : i.zero = some z) (hx : P.underlying tx = some (.int kk)) (base : Option Addr) (sLen sCap : Nat) (olds : List Value)
    (hold : (Builtin.firstCells i.size sLen (.slice base sLen sCap)).run P w.drew = .ok olds.toArray w.drew) (m : Nat) (k : IntKind)
    (hg : sCap < sLen + m) (h63 : ((sLen + m : Nat) : Int) ≤ 9223372036854775807) (hfit : Builtin.nextslicecap (sLen + m) sCap * i.bytes ≤ 281474976710656) (hm : m * i.bytes ≤ 281474976710656) (hm0 : m * i.size ≠ 0) :
    (Builtin.append_ #[t, tx] ty #[.slice base sLen sCap, .int k m]).run P w =
      .ok (.slice (some ⟨w.heap.size, 0, none⟩) (sLen + m) (grownCap w (sLen + m) sCap e))
        (w.drew.alloc (.cells (olds.toArray ++ Builtin.zeroCells z.cells m ++ Builtin.zeroCells z.cells (grownCap w (sLen + m) sCap e - (sLen + m))) e)) := by
  have hn : ¬ (sLen + m ≤ sCap) := by omega
  have h63' : ¬ (9223372036854775807 < ((sLen : Int) + (m : Int))) := by omega
  have h48' : ¬ (281474976710656 < Builtin.nextslicecap (sLen + m) sCap * i.bytes) := by omega
  have hw : IntKind.i64.wrap (m : Int) = m := (by rw [IntKind.wrap_i64]; omega)
  have h0 : ¬ ((m : Int) < 0) := by omega
  have h1 : ¬ (281474976710656 < (m : Int) * (i.bytes : Int)) := by
    have : (m : Int) * (i.bytes : Int) = ((m * i.bytes : Nat) : Int) := by simp
    omega
  simp [Builtin.append_, run_underlying ht, run_underlying hx, sizeOf, typeInfo, zeroValue, hi, hz, asInt, asIntOf, hw, h0, h1, hn, h63', h48', Question.forced, hold, newRow, grownCap]
  intro h
  exact absurd h hm0
/-- Zeros are appended, more than there is room for. -/
theorem dappend_zeros {t tx ty e : TypeId} {kk : IntKind} (he : elT P t = some e) (hx : P.underlying tx = some (.int kk)) (hz : zeroT P e = true) (hz2 : zeroOk P e = true) {n c m : Nat} {k off : Nat} {olds : List D} {ik : IntKind} {K : D → St → Prop} (ho : SrcOk S (szOf P e) (.win k off n c) n olds)
    (hgrow : c < n + m) (hnc : n ≤ c) (hb : n + m ≤ 140737488355328) (hby : (n + m) * bytesOf P e ≤ 140737488355328)
    (h : ∀ (c' : Nat) (zs : List D), n + m ≤ c' → (olds ++ zs).length = c' * szOf P e → K (.win S.next 0 (n + m) c') (S.add (.box e (olds ++ zs)))) : dappW P t tx ty (.win k off n c) (.v (.int ik m)) S K := by
  intro base η w vs hM hr
  simp only [RepL] at hr
  obtain ⟨x1, _, rfl, r1, x2, _, rfl, r2, rfl⟩ := hr
  simp only [Rep] at r2
  subst r2
  obtain ⟨os, o1, o2⟩ := srcOk_at hM ho r1
  obtain ⟨i, z, hi, hzr, hzs, hpos, hsz, hbz⟩ := zeroT_spec hz
  obtain ⟨z2, i2, hi2, hz2r, _, hz1, _⟩ := zeroOk_spec hz2
  rw [hi] at hi2
  injection hi2 with hi2
  subst hi2
  rw [hzr] at hz2r
  injection hz2r with hz2r
  subst hz2r
  have hu := elT_spec he
  obtain ⟨A, e1, _⟩ := r1.win_slice
  subst e1
  have hso := o1.src (tx := t) (by rw [he]; rfl)
  rw [hsz] at hso
  have hcold := hso.cellsD
  have hmb : m * i.bytes ≤ 281474976710656 := by
    have : m * i.bytes ≤ (n + m) * i.bytes := Nat.mul_le_mul_right _ (Nat.le_add_left _ _)
    rw [hbz] at hby
    omega
  have hrun := run_append_zeros (P := P) w t tx ty e i z kk hu hi hzr hx A n c os hcold m ik hgrow (by omega) (growslice_fits hgrow (by rw [← hbz]; exact hby)) hmb (by
    have : 1 * 1 ≤ m * i.size := Nat.mul_le_mul (by omega) (by omega)
    omega)
  have G1 := goes_drew hM
  have hge := grownCap_ge w (n + m) c e
  have G3 := G1.trans (goes_name G1.mem (.box e (olds ++ ((Builtin.zeroCells z.cells m).toList ++ (Builtin.zeroCells z.cells (grownCap w (n + m) c e - (n + m))).toList).map ofV)) (os.toArray ++ Builtin.zeroCells z.cells m ++ Builtin.zeroCells z.cells (grownCap w (n + m) c e - (n + m))) e
    (.inl ⟨_, os ++ ((Builtin.zeroCells z.cells m).toList ++ (Builtin.zeroCells z.cells (grownCap w (n + m) c e - (n + m))).toList), rfl, by apply Array.ext'; simp, RepL.append (G1.repL o2) (zeroD_rep _), fun u hu' => (List.mem_append.1 hu').elim (o1.one u) fun hh => (List.mem_append.1 hh).elim (fun hh => hz1 u (zeroCells_mem hh)) fun hh => hz1 u (zeroCells_mem hh)⟩))
  refine ⟨_, _, _, _, _, hrun, h _ _ hge ?_, ?_, G3⟩
  · have e1 := size_zeroCells z.cells (grownCap w (n + m) c e - (n + m))
    have e2 := size_zeroCells z.cells m
    rw [← Array.length_toList] at e1 e2
    rw [List.length_append, List.length_map, List.length_append, ho.length, e1, e2, hzs, hsz, ← Nat.add_mul, ← Nat.add_mul]
    congr 1
    omega
  · simp only [Rep]
    exact .inl ⟨w.heap.size, by simp only [Names.add, ↓reduceIte]; rfl, rfl, hge, hb⟩
/-- A slice is cleared. -/
theorem dclear_win {t ty e : TypeId} (he : elT P t = some e) (hz : zeroT P e = true) (hz2 : zeroOk P e = true) {k off n c : Nat} {bt : TypeId} {cs : List D} {K : D → St → Prop} (hk : S.ob k = some (.box bt cs)) (hfit : off + n * szOf P e ≤ cs.length)
    (h : ∀ zs : List D, zs.length = n * szOf P e → K (.tup []) (S.set k (.box bt (splice cs off zs)))) : dclear P #[t] ty (.win k off n c) S K := by
  intro base η w vs hM hr
  simp only [RepL] at hr
  obtain ⟨x1, _, rfl, r1, rfl⟩ := hr
  obtain ⟨b, bs, rfl, hb, g1, g2, g3, g4, g5⟩ := win_live hM hk r1
  obtain ⟨i, z, hi, hzr, hzs, hpos, hsz, hbz⟩ := zeroT_spec hz
  obtain ⟨z2, i2, hi2, hz2r, _, hz1, _⟩ := zeroOk_spec hz2
  rw [hi] at hi2
  injection hi2 with hi2
  subst hi2
  rw [hzr] at hz2r
  injection hz2r with hz2r
  subst hz2r
  have hu := elT_spec he
  have hl := g2.length
  have e1 := size_zeroCells z.cells n
  rw [← Array.length_toList, hzs, ← hsz] at e1
  have h1 : ∀ u ∈ (Builtin.zeroCells z.cells n).toList, u.oneCell' = true := fun u hu => hz1 u (zeroCells_mem hu)
  have hst := run_storeCells_at P b off bt (Builtin.zeroCells z.cells n).toList 0 bs.toArray w g1 (by rw [Nat.add_zero, e1, List.size_toArray, hl]; exact hfit) h1
  simp only [Nat.add_zero] at hst
  have hml : ((Builtin.zeroCells z.cells n).toList.map ofV).length = n * szOf P e := by rw [List.length_map, e1]
  have G := goes_set hM hk hb (splice_len (off := off) (ds := (Builtin.zeroCells z.cells n).toList.map ofV) (by rw [hml]; exact hfit)) (splice_rep g2 (zeroD_rep _)) (one_splice g3 h1)
  refine ⟨_, _, η, .tuple #[], _, ?_, h _ hml, by simp only [Rep, RepL]; exact ⟨[], rfl, rfl⟩, G⟩
  cases n with
  | zero =>
    have : Builtin.zeroCells z.cells 0 = #[] := by simp [Builtin.zeroCells]
    simp only [this, List.append_nil, List.length_nil, Nat.add_zero, List.take_append_drop]
    have e0 : w.setRow b bs.toArray = w := setRow_self w b bs.toArray bt (0, 0) g1
    simp [Builtin.clear_, run_underlying hu, e0]
  | succ n => simp [Builtin.clear_, run_underlying hu, zeroValue, typeInfo, hi, hzr, hst]
/-- Two slices that lie apart. -/
theorem doverlaps {g : FuncId} {fn : Func} {t e : TypeId} {tr : TypeId} (hf : P.funcs[g]? = some fn) (hname : (fn.name == "runtime.NumGoroutine") = false) (hb : fn.body.isNone = true) (hn : Extern.findNext fn = none) (hx : Extern.find fn = some (Extern.SlicesOverlaps.overlaps #[t, t] #[tr]))
    (he : elT P t = some e) (hi : (P.info? e).isSome = true) {o : Own} {es : List D} {k off n c : Nat} {bt : TypeId} {cs : List D} (hk : S.ob k = some (.box bt cs)) (hcs : cs ≠ []) {K : D → St → Prop} (h : K (.v (.bool false)) S) : DCalls P g [.sl o es, .win k off n c] S K := by
  intro base η w vs hM hr
  simp only [RepL] at hr
  obtain ⟨x1, _, rfl, r1, x2, _, rfl, r2, rfl⟩ := hr
  obtain ⟨b, bs, rfl, hbb, g1, g2, g3, g4, g5⟩ := win_live hM hk r2
  obtain ⟨i, hi⟩ := Option.isSome_iff_exists.1 hi
  have hu := elT_spec he
  refine .inr ⟨.v (.bool false), S, η, .bool false, w, ?_, h, by simp only [Rep], Goes.refl hM⟩
  rw [run_callFunc_extern hf hname hb hn hx]
  simp only [Rep] at r1
  obtain ⟨A, cap, rfl, h2, h3, h4, h5⟩ := r1
  have hshb : w.shape? b = some (bt, bs.length) := by simp [World.shape?, g1]
  have hbl : bs.length ≠ 0 := by rw [g2.length]; exact fun h => hcs (List.eq_nil_of_length_eq_zero h)
  have hfb : ∀ x, w.frozen? ⟨b, x, none⟩ = false := fun x => by simp [World.frozen?, g1]
  have key : ((Extern.SlicesOverlaps.overlaps #[t, t] #[tr] #[.slice A es.length cap, .slice (some ⟨b, off, none⟩) n c]).run P w) = .ok (.bool false) w := by
    change Sem.run P (α := Value) (do
      let some t := (#[t, t] : Array TypeId)[0]? | stuck "slices.overlaps: no parameter types"
      let .slice elem ← underlying t | stuck "slices.overlaps: slice type expected"
      let size ← sizeOf elem
      match A, (some ⟨b, off, none⟩ : Option Addr) with
      | some a, some b =>
        if es.length = 0 ∨ n = 0 ∨ size = 0 then pure (Value.bool false)
        else if a.block != b.block && (← frozen a) && (← frozen b) then unsupported .addressObserved
        else do
          if a.block != b.block then do
            noView a; noView b
            if ← mayBeOne a b then return Value.bool ((← choose (.extern "sameAddr.stringBytes" 2)) == 1)
          pure (Value.bool (a.block == b.block && a.off < b.off + n * size && b.off < a.off + es.length * size))
      | _, _ => pure (Value.bool false)) w = _
    rcases Nat.eq_zero_or_pos es.length with h0 | h0
    · cases A with
      | none => simp [run_underlying hu, sizeOf, typeInfo, hi]
      | some a => simp [run_underlying hu, sizeOf, typeInfo, hi, h0]
    · obtain ⟨b', o', z, rfl, hz, hE⟩ := h5 h0
      obtain ⟨d, hd⟩ : ∃ d, es[0]? = some d := ⟨_, List.getElem?_eq_getElem h0⟩
      have hel := (RepE.get 0 hE hd).cells
      simp only [Nat.zero_mul, Nat.add_zero] at hel
      have hcell : Fix P S η b' o' ∧ ∃ x, w.cell? ⟨b', o', none⟩ = some x := by
        cases hdc : d.cells with
        | nil => exfalso; have := hel.1; rw [D.width, hdc] at this; simp at this; omega
        | cons y l =>
          have := hel.2
          rw [hdc] at this
          simp only [RepC] at this
          exact ⟨this.1.1, _, this.1.2.choose_spec.1⟩
      obtain ⟨hfix, x, hx⟩ := hcell
      have hne : b' ≠ b := fun e => by subst e; exact hfix k _ hbb hk
      have hsh : ∃ te kA, w.shape? b' = some (te, kA + 1) := by
        unfold World.cell? at hx
        unfold World.shape?
        simp only at hx ⊢
        split at hx
        · rename_i cc tt ff hh
          have : o' < cc.size := by
            simp only [Option.isSome_none, Bool.false_eq_true, if_false] at hx
            exact (Array.getElem?_eq_some_iff.1 hx).1
          exact ⟨tt, cc.size - 1, by congr 2; omega⟩
        · cases hx
      obtain ⟨te, kA, hsh⟩ := hsh
      have hnb : (b' != b) = true := by simpa using hne
      have hnb' : (b' == b) = false := by simpa using hne
      by_cases h0' : n = 0 ∨ i.size = 0
      · have : es.length = 0 ∨ n = 0 ∨ i.size = 0 := .inr h0'
        simp [run_underlying hu, sizeOf, typeInfo, hi]
        intro _ a1 a2
        exact absurd h0' (by simp [a1, a2])
      · have h00 : ¬ (es.length = 0 ∨ n = 0 ∨ i.size = 0) := by omega
        cases hz1 : w.frozen? ⟨b', o', none⟩ <;> cases hz2 : w.frozen? ⟨b', kA + 1, none⟩ <;>
          simp [run_underlying hu, sizeOf, typeInfo, hi, hnb, hnb', frozen, noView, viewAt, mayBeOne, stringish, shape, Sem.run, hsh, hshb, hfb, hz1, hz2, hbl]
  show ((Extern.SlicesOverlaps.overlaps #[t, t] #[tr] #[.slice A es.length cap, .slice (some ⟨b, off, none⟩) n c]).run P w).andThen _ = _
  rw [key]
  rfl
theorem splice_at {B C X : List D} {o : Nat} (ho : o = B.length) : splice (B ++ C) o X = B ++ X ++ C.drop X.length := by
  subst ho
  unfold splice
  rw [List.take_append_of_le_length (Nat.le_refl _), List.take_of_length_le (Nat.le_refl _), List.drop_append, List.drop_of_length_le (by omega), List.nil_append]
  congr 2
  omega
theorem ins_old {B C X zs : List D} {o o' : Nat} (ho : o = B.length) (ho' : o' = B.length + X.length) (hl : X.length ≤ zs.length) : splice (splice (B ++ C ++ zs) o' C) o X = B ++ X ++ C ++ zs.drop X.length := by
  have e : B ++ C ++ zs = (B ++ C ++ zs).take (B.length + X.length) ++ (B ++ C ++ zs).drop (B.length + X.length) := (List.take_append_drop _ _).symm
  have hl1 : ((B ++ C ++ zs).take (B.length + X.length)).length = B.length + X.length := by rw [List.length_take]; simp; omega
  have h1 : splice (B ++ C ++ zs) o' C = (B ++ C ++ zs).take (B.length + X.length) ++ C ++ zs.drop X.length := by
    rw [e, splice_at (ho'.trans hl1.symm), ← e, List.drop_drop, List.drop_append (l₁ := B ++ C), List.drop_of_length_le (by simp only [List.length_append]; omega), List.nil_append]
    congr 2
    simp only [List.length_append]
    omega
  rw [h1]
  have e2 : (B ++ C ++ zs).take (B.length + X.length) = B ++ (C ++ zs).take X.length := by
    rw [List.append_assoc, List.take_append, List.take_of_length_le (by omega)]
    congr 2
    omega
  have hl2 : ((C ++ zs).take X.length).length = X.length := by rw [List.length_take]; simp; omega
  rw [e2, List.append_assoc, List.append_assoc, splice_at ho]
  rw [List.drop_append, List.drop_of_length_le (by omega), List.nil_append, hl2, Nat.sub_self, List.drop_zero]
  try simp
/-- An owned slice, or nothing yet. -/
def OwnD (P : Program) (S : St) (e : TypeId) (es : List D) (d : D) : Prop := (es = [] ∧ d = .sl .full []) ∨ ∃ k c zs, d = .win k 0 es.length c ∧ S.ob k = some (ownOb e es zs c) ∧ (flat es ++ zs).length = c * szOf P e ∧ k < S.next
def St.left (S : St) : D → St
  | .win k _ _ _ => S.drop k
  | _ => S
/-- Appended to an owned slice, or to nothing. -/
theorem dapp_ownD {t tx ty e : TypeId} (he : elT P t = some e) (hx : (elT P tx).isSome = true) (hz : zeroT P e = true) (hz2 : zeroOk P e = true) {d : D} {es es2 : List D} {o2 : Own} {K : D → St → Prop} (hd : OwnD P S e es d) (hw1 : ∀ d ∈ es, d.width = szOf P e) (hw2 : ∀ d ∈ es2, d.width = szOf P e)
    (hb : es.length + es2.length ≤ 140737488355328) (hby : (es.length + es2.length) * bytesOf P e ≤ 140737488355328)
    (h : ∀ (c' : Nat) (zs' : List D), (flat (es ++ es2) ++ zs').length = c' * szOf P e → K (.win S.next 0 (es.length + es2.length) c') ((S.left d).add (ownOb e (es ++ es2) zs' c'))) : dapp P S t tx ty d (.sl o2 es2) K := by
  rcases hd with ⟨rfl, rfl⟩ | ⟨k, c, zs, rfl, hk, hl, hkn⟩
  · refine dapp_nil he (dappend_fresh he hx hz hz2 (srcOk_sl hw2) rfl (by simpa using hb) (by simpa using hby) fun c' zs' _ h2 => ?_)
    have := h c' zs' (by simpa using h2)
    simpa [St.left] using this
  · rw [dapp_atw]
    exact dappend_own he hx hz hz2 hk hl hw1 (srcOk_sl hw2) rfl hb hby hkn fun c' zs' _ h2 => h c' zs' h2
theorem OwnD.mono {T T' : St} {e : TypeId} {es : List D} {d : D} (hd : OwnD P T e es d) (hs : T.Sub T') : OwnD P T' e es d := by
  rcases hd with h | ⟨k, c, zs, h1, h2, h3, h4⟩
  · exact .inl h
  · exact .inr ⟨k, c, zs, h1, hs.ob _ _ h2, h3, Nat.lt_of_lt_of_le h4 hs.next⟩
theorem OwnD.sub {S0 T : St} (hS : S0.WF) (hs : S0.Sub T) {e : TypeId} {es : List D} {d : D} (hd : OwnD P T e es d) (hlo : ∀ k o n c, d = .win k o n c → S0.next ≤ k) : S0.Sub (T.left d) := by
  rcases hd with ⟨_, rfl⟩ | ⟨k, c, zs, rfl, _⟩
  · exact hs
  · exact ⟨hs.next, fun j o hj => by
      have h1 := hS.lt hj
      have h2 := hlo _ _ _ _ rfl
      show (if j = k then none else T.ob j) = some o
      rw [if_neg (by omega)]
      exact hs.ob j o hj⟩
theorem left_next (T : St) (d : D) : (T.left d).next = T.next := by cases d <;> rfl
theorem St.WF.left {T : St} (h : T.WF) (d : D) : (T.left d).WF := by
  cases d with
  | win k o n c => exact h.drop k
  | _ => exact h
/-- At a call's end: nothing, as an owned slice. -/
theorem OwnD.win {e : TypeId} {es : List D} {d : D} (hd : OwnD P S e es d) : ∃ S1 k c zs, Thaw P S d S1 (.win k 0 es.length c) ∧ (S1 = S ∨ S1 = S.add (.row e 0)) ∧ S1.ob k = some (ownOb e es zs c) ∧ (flat es ++ zs).length = c * szOf P e ∧ k < S1.next ∧ ((∃ o n c', d = .win k o n c') ∨ k = S.next) := by
  rcases hd with ⟨rfl, rfl⟩ | ⟨k, c, zs, rfl, h1, h2, h3⟩
  · exact ⟨_, S.next, 0, [], thaw_nil e, .inr rfl, by simp [St.add, ownOb_nil], by simp [flat], by simp [St.add], .inr rfl⟩
  · exact ⟨S, k, c, zs, Thaw.refl _ _ _, .inl rfl, h1, h2, h3, .inl ⟨_, _, _, rfl⟩⟩
end
end Go.Proofs.Ytjjhjhjphhpeiaa

namespace Go.Proofs.Ytjjhjhjphhpeiaa
open Go.RowKit
/-- The end of a call that is walked where it stands. -/
def DQ.inl (P : Program) (rs : List ResultVar) (K : D → St → Prop) : DQ
  | .exit _, _, _ => False
  | _, f, S' => dresL P f S' rs fun ds => K (one ds) S'
theorem dcalls_inline {P : Program} (hm : P.follows .mixedOrders = true) {g : FuncId} {fn : Func} {c : Code} (hf : P.funcs[g]? = some fn) (hb : fn.body = some c) (hent : ∀ vs w, (callFunc g vs).run P w = .ok (.enter g vs) w) {rs : List ResultVar} (hrs : fn.results.toList = rs) {args : List D} (hok : (codeOk fn.ntmps c && fn.results.all (resOk fn.ntmps) && Nat.ble args.length fn.ntmps) = true) {S : St} {K : D → St → Prop}
    (h : S.WF → dwp P c (DQ.inl P rs K) (argF args) S) : DCalls P g args S K := by
  subst hrs
  intro base η w vs hM hr
  refine .inl ⟨hent _ _, ?_⟩
  simp only [Bool.and_eq_true] at hok
  obtain ⟨⟨hok1, hok2⟩, hok3⟩ := hok
  have hlen : args.length ≤ fn.ntmps := Nat.le_of_ble_eq_true hok3
  have hl := hr.length
  have hsz : (vs.toArray ++ Array.replicate (fn.ntmps - vs.toArray.size) undef).size = fn.ntmps := by simp; omega
  refine calls_of_wp hf hb ?_
  refine dwp_sound hm c (a := { tmps := vs.toArray ++ Array.replicate (fn.ntmps - vs.toArray.size) undef, defers := [] }) (by rw [hsz]; exact hok1) hM (fun t ht => ?_) (h hM.fresh) fun e f' S' η' w' a' k1 k2 k3 k4 k5 => ?_
  · rw [hsz] at ht
    simp only [argF]
    by_cases h1 : t < vs.length
    · obtain ⟨x, hx, hr'⟩ := hr.get t (List.getElem?_eq_getElem (by omega : t < args.length))
      have e1 : args.getD t undefD = args[t] := by rw [List.getD_eq_getElem?_getD, List.getElem?_eq_getElem (by omega : t < args.length)]; rfl
      have e2 : (vs.toArray ++ Array.replicate (fn.ntmps - vs.toArray.size) undef).getD t undef = x := by
        rw [Array.getD_eq_getD_getElem?, Array.getElem?_append_left (by simpa using h1)]
        simp [hx]
      rw [e1, e2]
      exact hr'
    · have e1 : args.getD t undefD = undefD := by rw [List.getD_eq_getElem?_getD, List.getElem?_eq_none (by omega)]; rfl
      have e2 : (vs.toArray ++ Array.replicate (fn.ntmps - vs.toArray.size) undef).getD t undef = undef := by
        rw [Array.getD_eq_getD_getElem?, Array.getElem?_append_right (by simpa using h1)]
        rw [Array.getElem?_replicate]
        split <;> rfl
      rw [e1, e2]
      simp only [Rep, RepL]
      exact ⟨[], rfl, rfl⟩
  · have hsz' : a'.tmps.size = fn.ntmps := by rw [k4]; exact hsz
    have hd' : a'.defers = [] := k5
    have fin : dresL P f' S' fn.results.toList (fun ds => K (one ds) S') → a'.defers = [] ∧ ∃ v, (results fn a'.tmps).run P w' = .ok v w' ∧ ∃ d S'' η'' u, K d S'' ∧ Ending.returned v = .returned u ∧ Rep P w' η'' (Fix P S'' η'') d u ∧ Goes P base S η w S'' η'' w' := fun hres => by
      obtain ⟨ds, v, hk, q7, q8⟩ := results_sound k2.mem k3 (by rw [hsz']; exact hok2) hres
      exact ⟨hd', v, q8, one ds, S', η', v, hk, rfl, q7, k2⟩
    cases e with
    | normal => exact fin k1
    | ret => exact fin k1
    | exit i => exact k1.elim
section
variable {P : Program} {S : St} {f : Fm} {K : D → St → Prop}
theorem inl_ret (t : Tmp) (S' : St) : DQ.inl P [.tmp t] K .ret f S' = K (f t) S' := by simp [DQ.inl, dresL, dres, onVal, one]
theorem inl_normal (t : Tmp) (S' : St) : DQ.inl P [.tmp t] K .normal f S' = K (f t) S' := by simp [DQ.inl, dresL, dres, onVal, one]
theorem inl_ret2 (t u : Tmp) (S' : St) : DQ.inl P [.tmp t, .tmp u] K .ret f S' = K (.tup [f t, f u]) S' := by simp [DQ.inl, dresL, dres, onVal, one]
theorem inl_normal2 (t u : Tmp) (S' : St) : DQ.inl P [.tmp t, .tmp u] K .normal f S' = K (.tup [f t, f u]) S' := by simp [DQ.inl, dresL, dres, onVal, one]
theorem inl_ret0 (S' : St) : DQ.inl P [] K .ret f S' = K undefD S' := by simp [DQ.inl, dresL, one]
theorem inl_normal0 (S' : St) : DQ.inl P [] K .normal f S' = K undefD S' := by simp [DQ.inl, dresL, one]
end
theorem inl_cell_normal {P : Program} {f : Fm} {K : D → St → Prop} (x : Tmp) (t : TypeId) (S' : St) : DQ.inl P [.cell x t] K .normal f S' = dcellR P S' t (f x) (fun r => K r S') := onVal_cell x t _
theorem inl_cell_ret {P : Program} {f : Fm} {K : D → St → Prop} (x : Tmp) (t : TypeId) (S' : St) : DQ.inl P [.cell x t] K .ret f S' = dcellR P S' t (f x) (fun r => K r S') := onVal_cell x t _
attribute [go_sem] inl_cell_normal inl_cell_ret
attribute [go_sem] inl_ret inl_normal inl_ret2 inl_normal2 inl_ret0 inl_normal0
end Go.Proofs.Ytjjhjhjphhpeiaa

namespace Go.Proofs.Ytjjhjhjphhpeiaa
open Go.RowKit
set_option maxHeartbeats 4000000 in
set_option maxRecDepth 20000 in
theorem ins_str {S : St} {k c i n : Nat} {es zs : List D} {x : D} {o : Own} {K : D → St → Prop} (hk : S.ob k = some (ownOb 9 es zs c)) (hl : (flat es ++ zs).length = c * 1) (hw : ∀ d ∈ es, d.width = 1) (hx : x.width = 1) (hi : i ≤ es.length) (hn : es.length ≤ 1073741824) (hkn : k < S.next) (hnn : n = es.length)
    (h : ∀ (c' : Nat) (zs' : List D), es.length + 1 ≤ c' → (flat (es.take i ++ [x] ++ es.drop i) ++ zs').length = c' * 1 → K (.win S.next 0 (n + 1) c') ((S.drop k).add (ownOb 9 (es.take i ++ [x] ++ es.drop i) zs' c'))) :
    DCalls Try.prog 62 [.win k 0 n c, .v (.int .i64 i), .sl o [x]] S K := by
  subst hnn
  have hc := ownOb_len hw (by omega) hl
  have heT : elT Try.prog 22 = some 9 := by kernel_rfl
  have heS : (elT Try.prog 22).isSome = true := by rw [heT]; rfl
  have hsz : szOf Try.prog 9 = 1 := by kernel_rfl
  have hby : bytesOf Try.prog 9 = 16 := by kernel_rfl
  have hzT : zeroT Try.prog 9 = true := by kernel_rfl
  have hzO : zeroOk Try.prog 9 = true := by kernel_rfl
  have hiS := (zeroT_pos hzT).2
  refine DCalls.thaw ?_
  refine dcalls_inline mixed Try.func62 rfl (fun _ _ => by kernel_rfl) (rs := [.tmp 6]) rfl (by kernel_rfl) (fun hS => ?_)
  have hwr : IntKind.i64.wrap ((es.length : Int) + ((1 : Nat) : Int)) = ((es.length + 1 : Nat) : Int) := by rw [IntKind.wrap_i64]; omega
  have h10 : (((1 : Nat) : Int) == 0) = false := by decide
  by_cases hin : i = es.length
  · subst hin
    have b1 : ((es.length : Int) == (es.length : Int)) = true := by simp
    (simp (disch := first | decide | omega | (simp only [add_next, set_next, grow_next, leave_next, drop_next, List.length_map]; first | done | omega)) only [go_sem, ↓reduceIte, Nat.reduceBEq, Nat.reduceAdd, Nat.reduceLeDiff, Nat.reduceEqDiff, Nat.reduceLT, Nat.reduceMul, hwr, h10, b1]; (repeat (with_reducible refine And.intro (by first | omega | assumption | rfl) ?_)))
    refine dappend_own heT heS hzT hzO hk (by rw [hsz]; exact hl) (by rw [hsz]; exact hw) (es2 := [x]) (srcOk_one (by rw [hsz]; exact hx)) rfl (by simp; omega) (by rw [hby]; simp; omega) hkn fun c' zs' h1 h2 => ?_
    (simp (disch := first | decide | omega | (simp only [add_next, set_next, grow_next, leave_next, drop_next, List.length_map]; first | done | omega)) only [go_sem, ↓reduceIte, Nat.reduceBEq, Nat.reduceAdd, Nat.reduceLeDiff, Nat.reduceEqDiff, Nat.reduceLT, Nat.reduceMul]; (repeat (with_reducible refine And.intro (by first | omega | assumption | rfl) ?_)))
    refine ⟨_, _, Thaw.refl _ _ _, ?_⟩
    have := h c' zs' h1
    rw [List.take_of_length_le (Nat.le_refl _), List.drop_of_length_le (Nat.le_refl _), List.append_nil] at this
    exact this (by rw [hsz] at h2; exact h2)
  · have b1 : ((i : Int) == (es.length : Int)) = false := by simp; omega
    have hcap : 0 < c := by omega
    have hk0 := hk
    rw [ownOb_box hcap] at hk
    by_cases hgr : c < es.length + 1
    · have b2 : decide ((c : Int) < ((es.length + 1 : Nat) : Int)) = true := by simp; omega
      have hwr2 : IntKind.i64.wrap (((es.length + 1 : Nat) : Int) - (i : Int)) = ((es.length + 1 - i : Nat) : Int) := by rw [IntKind.wrap_i64]; omega
      have hwr3 : IntKind.i64.wrap ((i : Int) + ((1 : Nat) : Int)) = ((i + 1 : Nat) : Int) := by rw [IntKind.wrap_i64]; omega
      (simp (disch := first | decide | omega | (simp only [add_next, set_next, grow_next, leave_next, drop_next, List.length_map]; first | done | omega)) only [go_sem, ↓reduceIte, Nat.reduceBEq, Nat.reduceAdd, Nat.reduceLeDiff, Nat.reduceEqDiff, Nat.reduceLT, Nat.reduceMul, hwr, h10, b1, b2, hwr2]; (repeat (with_reducible refine And.intro (by first | omega | assumption | rfl) ?_)))
      have hso := srcOk_own0 (c' := c) hk0 hc hw hi
      refine dappend_zeros heT (kk := .i64) (by kernel_rfl) hzT hzO hso (by omega) (by omega) (by omega) (by rw [hby]; omega) fun c' zs' h1 h2 => ?_
      have hfx : (flat [x]).length = 1 := by simpa [flat, D.width] using hx
      have hfB : (flat (es.take i)).length = i * 1 := by rw [dflat_length fun d hd => hw d (List.mem_of_mem_take hd), List.length_take]; congr 1; omega
      have hfC : (flat (es.drop i)).length = (es.length - i) * 1 := by rw [dflat_length fun d hd => hw d (List.mem_of_mem_drop hd), List.length_drop]
      rw [hsz] at h2
      (simp (disch := first | decide | omega | (simp only [add_next, set_next, grow_next, leave_next, drop_next, List.length_map]; first | done | omega)) only [go_sem, ↓reduceIte, Nat.reduceBEq, Nat.reduceAdd, Nat.reduceLeDiff, Nat.reduceEqDiff, Nat.reduceLT, Nat.reduceMul, winOff_lt]; (repeat (with_reducible refine And.intro (by first | omega | assumption | rfl) ?_)))
      have hmin : Nat.min 1 (i + (es.length + 1 - i) - i) = 1 := by show min _ _ = _; omega
      have hzl : 1 ≤ zs'.length := by rw [List.length_append, hfB] at h2; omega
      refine dcopy_win heT hiS (m := 1) (cs := flat (es.take i) ++ zs') (bt := 9) (news := flat [x]) (by (first | (simp (disch := first | decide | omega | (simp only [add_next, set_next, grow_next, leave_next, drop_next, List.length_map]; first | done | omega)) only [go_sem, ↓reduceIte, Nat.reduceBEq, Nat.reduceAdd, Nat.reduceLeDiff, Nat.reduceEqDiff, Nat.reduceLT, Nat.reduceMul]; first | done | rfl) | rfl)) (srcOk_one (by rw [hsz]; exact hx)) (by rw [hsz, h2, hmin]; omega) (cs' := flat (es.take i) ++ flat [x] ++ zs'.drop 1) (by rw [hsz, hmin, List.take_of_length_le (l := flat [x]) (by omega), splice_at (by rw [hfB]), hfx]) ?_
      (simp (disch := first | decide | omega | (simp only [add_next, set_next, grow_next, leave_next, drop_next, List.length_map]; first | done | omega)) only [go_sem, ↓reduceIte, Nat.reduceBEq, Nat.reduceAdd, Nat.reduceLeDiff, Nat.reduceEqDiff, Nat.reduceLT, Nat.reduceMul, winOff_lt, hwr3]; (repeat (with_reducible refine And.intro (by first | omega | assumption | rfl) ?_)))
      refine ddraw_mk 8 (by kernel_rfl) ?_
      (simp (disch := first | decide | omega | (simp only [add_next, set_next, grow_next, leave_next, drop_next, List.length_map]; first | done | omega)) only [go_sem, ↓reduceIte, Nat.reduceBEq, Nat.reduceAdd, Nat.reduceLeDiff, Nat.reduceEqDiff, Nat.reduceLT, Nat.reduceMul, winOff_lt, hwr3]; (repeat (with_reducible refine And.intro (by first | omega | assumption | rfl) ?_)))
      have hmin2 : Nat.min (es.length - i) (i + (es.length + 1 - i) - (i + 1)) = es.length - i := by show min _ _ = _; omega
      have hso2 := srcOk_own (S := (S.add (.box 9 (flat (es.take i) ++ zs'))).set S.next (.box 9 (flat (es.take i) ++ flat [x] ++ zs'.drop 1))) (l := i) (n := es.length - i) (c' := c - i) (k := k) (c := c) (e := 9) (es := es) (zs := zs) (z := 1) (by (first | (simp (disch := first | decide | omega | (simp only [add_next, set_next, grow_next, leave_next, drop_next, List.length_map]; first | done | omega)) only [go_sem, ↓reduceIte, Nat.reduceBEq, Nat.reduceAdd, Nat.reduceLeDiff, Nat.reduceEqDiff, Nat.reduceLT, Nat.reduceMul, hk0]; first | done | rfl) | rfl)) hc hw (by omega)
      rw [List.take_of_length_le (l := es.drop i) (by rw [List.length_drop]; omega)] at hso2
      refine dcopy_win heT hiS (m := es.length - i) (cs := flat (es.take i) ++ flat [x] ++ zs'.drop 1) (bt := 9) (news := flat (es.drop i)) (by (first | (simp (disch := first | decide | omega | (simp only [add_next, set_next, grow_next, leave_next, drop_next, List.length_map]; first | done | omega)) only [go_sem, ↓reduceIte, Nat.reduceBEq, Nat.reduceAdd, Nat.reduceLeDiff, Nat.reduceEqDiff, Nat.reduceLT, Nat.reduceMul]; first | done | rfl) | rfl)) (by rw [hsz]; exact hso2) (by rw [hsz, hmin2]; simp only [List.length_append, hfB, hfx, List.length_drop]; rw [List.length_append, hfB] at h2; omega) (cs' := flat (es.take i ++ [x] ++ es.drop i) ++ (zs'.drop 1).drop ((es.length - i) * 1)) (by rw [hsz, hmin2, List.take_of_length_le (l := flat (es.drop i)) (by omega), splice_at (by rw [List.length_append, hfB, hfx]; omega), hfC, flat_append, flat_append]) ?_
      (simp (disch := first | decide | omega | (simp only [add_next, set_next, grow_next, leave_next, drop_next, List.length_map]; first | done | omega)) only [go_sem, ↓reduceIte, Nat.reduceBEq, Nat.reduceAdd, Nat.reduceLeDiff, Nat.reduceEqDiff, Nat.reduceLT, Nat.reduceMul]; (repeat (with_reducible refine And.intro (by first | omega | assumption | rfl) ?_)))
      refine ⟨_, _, thaw_drop k _, ?_⟩
      rw [St.add_set, St.add_set, St.add_drop _ _ hkn]
      have e1 : i + (es.length + 1 - i) = es.length + 1 := by omega
      rw [e1] at h1 ⊢
      have := h c' (List.drop ((es.length - i) * 1) (List.drop 1 zs')) h1 (by
        simp only [List.length_append, flat_append, hfB, hfC, hfx, List.length_drop]
        rw [List.length_append, hfB] at h2
        omega)
      rw [ownOb_box (by omega)] at this
      exact this
    · have b2 : decide ((c : Int) < ((es.length + 1 : Nat) : Int)) = false := by simp; omega
      have hwr3 : IntKind.i64.wrap ((i : Int) + ((1 : Nat) : Int)) = ((i + 1 : Nat) : Int) := by rw [IntKind.wrap_i64]; omega
      (simp (disch := first | decide | omega | (simp only [add_next, set_next, grow_next, leave_next, drop_next, List.length_map]; first | done | omega)) only [go_sem, ↓reduceIte, Nat.reduceBEq, Nat.reduceAdd, Nat.reduceLeDiff, Nat.reduceEqDiff, Nat.reduceLT, Nat.reduceMul, hwr, hwr3, h10, b1, b2, winOff_lt]; (repeat (with_reducible refine And.intro (by first | omega | assumption | rfl) ?_)))
      refine doverlaps (tr := 4) Try.func91 (by kernel_rfl) (by kernel_rfl) (by kernel_rfl) (by kernel_rfl) heT hiS hk (fun e => by rw [e] at hl; simp at hl; omega) ?_
      (simp (disch := first | decide | omega | (simp only [add_next, set_next, grow_next, leave_next, drop_next, List.length_map]; first | done | omega)) only [go_sem, ↓reduceIte, Nat.reduceBEq, Nat.reduceAdd, Nat.reduceLeDiff, Nat.reduceEqDiff, Nat.reduceLT, Nat.reduceMul, winOff_lt]; (repeat (with_reducible refine And.intro (by first | omega | assumption | rfl) ?_)))
      refine ddraw_mk 8 (by kernel_rfl) ?_
      (simp (disch := first | decide | omega | (simp only [add_next, set_next, grow_next, leave_next, drop_next, List.length_map]; first | done | omega)) only [go_sem, ↓reduceIte, Nat.reduceBEq, Nat.reduceAdd, Nat.reduceLeDiff, Nat.reduceEqDiff, Nat.reduceLT, Nat.reduceMul, winOff_lt, hwr3]; (repeat (with_reducible refine And.intro (by first | omega | assumption | rfl) ?_)))
      have hfx : (flat [x]).length = 1 := by simpa [flat, D.width] using hx
      have hfB : (flat (es.take i)).length = i * 1 := by rw [dflat_length fun d hd => hw d (List.mem_of_mem_take hd), List.length_take]; congr 1; omega
      have hfC : (flat (es.drop i)).length = (es.length - i) * 1 := by rw [dflat_length fun d hd => hw d (List.mem_of_mem_drop hd), List.length_drop]
      have hff : flat es = flat (es.take i) ++ flat (es.drop i) := by rw [← flat_append, List.take_append_drop]
      have hzl : 1 ≤ zs.length := by rw [List.length_append, hff, List.length_append, hfB, hfC] at hl; omega
      have hmin : Nat.min (es.length + 1 - i) (es.length + 1 - (i + 1)) = es.length - i := by show min _ _ = _; omega
      obtain ⟨cs1, hcs1⟩ : ∃ cs1, splice (flat es ++ zs) ((i + 1) * 1) (flat (es.drop i)) = cs1 := ⟨_, rfl⟩
      have hcl : cs1.length = c * 1 := by rw [← hcs1, splice_len, hl]; rw [hl, hfC]; omega
      refine dcopy_win heT hiS (m := es.length + 1 - i) hk (srcOk_win hk (by rw [hsz, hl]; omega)) (by rw [hsz, hmin, hl]; omega) (cs' := cs1) (by
        rw [hsz, hmin, ← hcs1, List.take_take, Nat.min_eq_left (by omega), List.drop_append_of_le_length (by rw [hff, List.length_append, hfB]; omega), flat_drop hw, List.take_append_of_le_length (by omega), List.take_of_length_le (by omega)]) ?_
      (simp (disch := first | decide | omega | (simp only [add_next, set_next, grow_next, leave_next, drop_next, List.length_map]; first | done | omega)) only [go_sem, ↓reduceIte, Nat.reduceBEq, Nat.reduceAdd, Nat.reduceLeDiff, Nat.reduceEqDiff, Nat.reduceLT, Nat.reduceMul, winOff_lt, hwr3]; (repeat (with_reducible refine And.intro (by first | omega | assumption | rfl) ?_)))
      have hmin2 : Nat.min 1 (es.length + 1 - i) = 1 := by show min _ _ = _; omega
      refine dcopy_win heT hiS (m := 1) (cs := cs1) (bt := 9) (news := flat [x]) (by (first | (simp (disch := first | decide | omega | (simp only [add_next, set_next, grow_next, leave_next, drop_next, List.length_map]; first | done | omega)) only [go_sem, ↓reduceIte, Nat.reduceBEq, Nat.reduceAdd, Nat.reduceLeDiff, Nat.reduceEqDiff, Nat.reduceLT, Nat.reduceMul]; first | done | rfl) | rfl)) (srcOk_one (by rw [hsz]; exact hx)) (by rw [hsz, hmin2, hcl]; omega) (cs' := flat (es.take i ++ [x] ++ es.drop i) ++ zs.drop 1) (by rw [hsz, hmin2, List.take_of_length_le (l := flat [x]) (by omega), ← hcs1, hff, ins_old (by rw [hfB]) (by rw [hfB, hfx]; omega) (by omega), hfx, flat_append, flat_append]) ?_
      (simp (disch := first | decide | omega | (simp only [add_next, set_next, grow_next, leave_next, drop_next, List.length_map]; first | done | omega)) only [go_sem, ↓reduceIte, Nat.reduceBEq, Nat.reduceAdd, Nat.reduceLeDiff, Nat.reduceEqDiff, Nat.reduceLT, Nat.reduceMul]; (repeat (with_reducible refine And.intro (by first | omega | assumption | rfl) ?_)))
      rw [St.set_set]
      refine ⟨_, _, thaw_rename (o := .box 9 (flat (es.take i ++ [x] ++ es.drop i) ++ zs.drop 1)) (by simp [St.set]), ?_⟩
      rw [St.set_drop]
      have := h c (zs.drop 1) (by omega) (by
        simp only [List.length_append, flat_append, hfB, hfC, hfx, List.length_drop]
        rw [List.length_append, hff, List.length_append, hfB, hfC] at hl
        omega)
      rw [ownOb_box (by omega)] at this
      exact this

set_option maxHeartbeats 4000000 in
set_option maxRecDepth 20000 in
theorem ins_val {S : St} {k c i n : Nat} {es zs : List D} {x : D} {o : Own} {K : D → St → Prop} (hk : S.ob k = some (ownOb 28 es zs c)) (hl : (flat es ++ zs).length = c * 6) (hw : ∀ d ∈ es, d.width = 6) (hx : x.width = 6) (hi : i ≤ es.length) (hn : es.length ≤ 1073741824) (hkn : k < S.next) (hnn : n = es.length)
    (h : ∀ (c' : Nat) (zs' : List D), es.length + 1 ≤ c' → (flat (es.take i ++ [x] ++ es.drop i) ++ zs').length = c' * 6 → K (.win S.next 0 (n + 1) c') ((S.drop k).add (ownOb 28 (es.take i ++ [x] ++ es.drop i) zs' c'))) :
    DCalls Try.prog 63 [.win k 0 n c, .v (.int .i64 i), .sl o [x]] S K := by
  subst hnn
  have hc := ownOb_len hw (by omega) hl
  have heT : elT Try.prog 23 = some 28 := by kernel_rfl
  have heS : (elT Try.prog 23).isSome = true := by rw [heT]; rfl
  have hsz : szOf Try.prog 28 = 6 := by kernel_rfl
  have hby : bytesOf Try.prog 28 = 104 := by kernel_rfl
  have hzT : zeroT Try.prog 28 = true := by kernel_rfl
  have hzO : zeroOk Try.prog 28 = true := by kernel_rfl
  have hiS := (zeroT_pos hzT).2
  refine DCalls.thaw ?_
  refine dcalls_inline mixed Try.func63 rfl (fun _ _ => by kernel_rfl) (rs := [.tmp 6]) rfl (by kernel_rfl) (fun hS => ?_)
  have hwr : IntKind.i64.wrap ((es.length : Int) + ((1 : Nat) : Int)) = ((es.length + 1 : Nat) : Int) := by rw [IntKind.wrap_i64]; omega
  have h10 : (((1 : Nat) : Int) == 0) = false := by decide
  by_cases hin : i = es.length
  · subst hin
    have b1 : ((es.length : Int) == (es.length : Int)) = true := by simp
    (simp (disch := first | decide | omega | (simp only [add_next, set_next, grow_next, leave_next, drop_next, List.length_map]; first | done | omega)) only [go_sem, ↓reduceIte, Nat.reduceBEq, Nat.reduceAdd, Nat.reduceLeDiff, Nat.reduceEqDiff, Nat.reduceLT, Nat.reduceMul, hwr, h10, b1]; (repeat (with_reducible refine And.intro (by first | omega | assumption | rfl) ?_)))
    refine dappend_own heT heS hzT hzO hk (by rw [hsz]; exact hl) (by rw [hsz]; exact hw) (es2 := [x]) (srcOk_one (by rw [hsz]; exact hx)) rfl (by simp; omega) (by rw [hby]; simp; omega) hkn fun c' zs' h1 h2 => ?_
    (simp (disch := first | decide | omega | (simp only [add_next, set_next, grow_next, leave_next, drop_next, List.length_map]; first | done | omega)) only [go_sem, ↓reduceIte, Nat.reduceBEq, Nat.reduceAdd, Nat.reduceLeDiff, Nat.reduceEqDiff, Nat.reduceLT, Nat.reduceMul]; (repeat (with_reducible refine And.intro (by first | omega | assumption | rfl) ?_)))
    refine ⟨_, _, Thaw.refl _ _ _, ?_⟩
    have := h c' zs' h1
    rw [List.take_of_length_le (Nat.le_refl _), List.drop_of_length_le (Nat.le_refl _), List.append_nil] at this
    exact this (by rw [hsz] at h2; exact h2)
  · have b1 : ((i : Int) == (es.length : Int)) = false := by simp; omega
    have hcap : 0 < c := by omega
    have hk0 := hk
    rw [ownOb_box hcap] at hk
    by_cases hgr : c < es.length + 1
    · have b2 : decide ((c : Int) < ((es.length + 1 : Nat) : Int)) = true := by simp; omega
      have hwr2 : IntKind.i64.wrap (((es.length + 1 : Nat) : Int) - (i : Int)) = ((es.length + 1 - i : Nat) : Int) := by rw [IntKind.wrap_i64]; omega
      have hwr3 : IntKind.i64.wrap ((i : Int) + ((1 : Nat) : Int)) = ((i + 1 : Nat) : Int) := by rw [IntKind.wrap_i64]; omega
      (simp (disch := first | decide | omega | (simp only [add_next, set_next, grow_next, leave_next, drop_next, List.length_map]; first | done | omega)) only [go_sem, ↓reduceIte, Nat.reduceBEq, Nat.reduceAdd, Nat.reduceLeDiff, Nat.reduceEqDiff, Nat.reduceLT, Nat.reduceMul, hwr, h10, b1, b2, hwr2]; (repeat (with_reducible refine And.intro (by first | omega | assumption | rfl) ?_)))
      have hso := srcOk_own0 (c' := c) hk0 hc hw hi
      refine dappend_zeros heT (kk := .i64) (by kernel_rfl) hzT hzO hso (by omega) (by omega) (by omega) (by rw [hby]; omega) fun c' zs' h1 h2 => ?_
      have hfx : (flat [x]).length = 6 := by simpa [flat, D.width] using hx
      have hfB : (flat (es.take i)).length = i * 6 := by rw [dflat_length fun d hd => hw d (List.mem_of_mem_take hd), List.length_take]; congr 1; omega
      have hfC : (flat (es.drop i)).length = (es.length - i) * 6 := by rw [dflat_length fun d hd => hw d (List.mem_of_mem_drop hd), List.length_drop]
      rw [hsz] at h2
      (simp (disch := first | decide | omega | (simp only [add_next, set_next, grow_next, leave_next, drop_next, List.length_map]; first | done | omega)) only [go_sem, ↓reduceIte, Nat.reduceBEq, Nat.reduceAdd, Nat.reduceLeDiff, Nat.reduceEqDiff, Nat.reduceLT, Nat.reduceMul, winOff_lt]; (repeat (with_reducible refine And.intro (by first | omega | assumption | rfl) ?_)))
      have hmin : Nat.min 1 (i + (es.length + 1 - i) - i) = 1 := by show min _ _ = _; omega
      have hzl : 6 ≤ zs'.length := by rw [List.length_append, hfB] at h2; omega
      refine dcopy_win heT hiS (m := 1) (cs := flat (es.take i) ++ zs') (bt := 28) (news := flat [x]) (by (first | (simp (disch := first | decide | omega | (simp only [add_next, set_next, grow_next, leave_next, drop_next, List.length_map]; first | done | omega)) only [go_sem, ↓reduceIte, Nat.reduceBEq, Nat.reduceAdd, Nat.reduceLeDiff, Nat.reduceEqDiff, Nat.reduceLT, Nat.reduceMul]; first | done | rfl) | rfl)) (srcOk_one (by rw [hsz]; exact hx)) (by rw [hsz, h2, hmin]; omega) (cs' := flat (es.take i) ++ flat [x] ++ zs'.drop 6) (by rw [hsz, hmin, List.take_of_length_le (l := flat [x]) (by omega), splice_at (by rw [hfB]), hfx]) ?_
      (simp (disch := first | decide | omega | (simp only [add_next, set_next, grow_next, leave_next, drop_next, List.length_map]; first | done | omega)) only [go_sem, ↓reduceIte, Nat.reduceBEq, Nat.reduceAdd, Nat.reduceLeDiff, Nat.reduceEqDiff, Nat.reduceLT, Nat.reduceMul, winOff_lt, hwr3]; (repeat (with_reducible refine And.intro (by first | omega | assumption | rfl) ?_)))
      refine ddraw_mk 8 (by kernel_rfl) ?_
      (simp (disch := first | decide | omega | (simp only [add_next, set_next, grow_next, leave_next, drop_next, List.length_map]; first | done | omega)) only [go_sem, ↓reduceIte, Nat.reduceBEq, Nat.reduceAdd, Nat.reduceLeDiff, Nat.reduceEqDiff, Nat.reduceLT, Nat.reduceMul, winOff_lt, hwr3]; (repeat (with_reducible refine And.intro (by first | omega | assumption | rfl) ?_)))
      have hmin2 : Nat.min (es.length - i) (i + (es.length + 1 - i) - (i + 1)) = es.length - i := by show min _ _ = _; omega
      have hso2 := srcOk_own (S := (S.add (.box 28 (flat (es.take i) ++ zs'))).set S.next (.box 28 (flat (es.take i) ++ flat [x] ++ zs'.drop 6))) (l := i) (n := es.length - i) (c' := c - i) (k := k) (c := c) (e := 28) (es := es) (zs := zs) (z := 6) (by (first | (simp (disch := first | decide | omega | (simp only [add_next, set_next, grow_next, leave_next, drop_next, List.length_map]; first | done | omega)) only [go_sem, ↓reduceIte, Nat.reduceBEq, Nat.reduceAdd, Nat.reduceLeDiff, Nat.reduceEqDiff, Nat.reduceLT, Nat.reduceMul, hk0]; first | done | rfl) | rfl)) hc hw (by omega)
      rw [List.take_of_length_le (l := es.drop i) (by rw [List.length_drop]; omega)] at hso2
      refine dcopy_win heT hiS (m := es.length - i) (cs := flat (es.take i) ++ flat [x] ++ zs'.drop 6) (bt := 28) (news := flat (es.drop i)) (by (first | (simp (disch := first | decide | omega | (simp only [add_next, set_next, grow_next, leave_next, drop_next, List.length_map]; first | done | omega)) only [go_sem, ↓reduceIte, Nat.reduceBEq, Nat.reduceAdd, Nat.reduceLeDiff, Nat.reduceEqDiff, Nat.reduceLT, Nat.reduceMul]; first | done | rfl) | rfl)) (by rw [hsz]; exact hso2) (by rw [hsz, hmin2]; simp only [List.length_append, hfB, hfx, List.length_drop]; rw [List.length_append, hfB] at h2; omega) (cs' := flat (es.take i ++ [x] ++ es.drop i) ++ (zs'.drop 6).drop ((es.length - i) * 6)) (by rw [hsz, hmin2, List.take_of_length_le (l := flat (es.drop i)) (by omega), splice_at (by rw [List.length_append, hfB, hfx]; omega), hfC, flat_append, flat_append]) ?_
      (simp (disch := first | decide | omega | (simp only [add_next, set_next, grow_next, leave_next, drop_next, List.length_map]; first | done | omega)) only [go_sem, ↓reduceIte, Nat.reduceBEq, Nat.reduceAdd, Nat.reduceLeDiff, Nat.reduceEqDiff, Nat.reduceLT, Nat.reduceMul]; (repeat (with_reducible refine And.intro (by first | omega | assumption | rfl) ?_)))
      refine ⟨_, _, thaw_drop k _, ?_⟩
      rw [St.add_set, St.add_set, St.add_drop _ _ hkn]
      have e1 : i + (es.length + 1 - i) = es.length + 1 := by omega
      rw [e1] at h1 ⊢
      have := h c' (List.drop ((es.length - i) * 6) (List.drop 6 zs')) h1 (by
        simp only [List.length_append, flat_append, hfB, hfC, hfx, List.length_drop]
        rw [List.length_append, hfB] at h2
        omega)
      rw [ownOb_box (by omega)] at this
      exact this
    · have b2 : decide ((c : Int) < ((es.length + 1 : Nat) : Int)) = false := by simp; omega
      have hwr3 : IntKind.i64.wrap ((i : Int) + ((1 : Nat) : Int)) = ((i + 1 : Nat) : Int) := by rw [IntKind.wrap_i64]; omega
      (simp (disch := first | decide | omega | (simp only [add_next, set_next, grow_next, leave_next, drop_next, List.length_map]; first | done | omega)) only [go_sem, ↓reduceIte, Nat.reduceBEq, Nat.reduceAdd, Nat.reduceLeDiff, Nat.reduceEqDiff, Nat.reduceLT, Nat.reduceMul, hwr, hwr3, h10, b1, b2, winOff_lt]; (repeat (with_reducible refine And.intro (by first | omega | assumption | rfl) ?_)))
      refine doverlaps (tr := 4) Try.func93 (by kernel_rfl) (by kernel_rfl) (by kernel_rfl) (by kernel_rfl) heT hiS hk (fun e => by rw [e] at hl; simp at hl; omega) ?_
      (simp (disch := first | decide | omega | (simp only [add_next, set_next, grow_next, leave_next, drop_next, List.length_map]; first | done | omega)) only [go_sem, ↓reduceIte, Nat.reduceBEq, Nat.reduceAdd, Nat.reduceLeDiff, Nat.reduceEqDiff, Nat.reduceLT, Nat.reduceMul, winOff_lt]; (repeat (with_reducible refine And.intro (by first | omega | assumption | rfl) ?_)))
      refine ddraw_mk 8 (by kernel_rfl) ?_
      (simp (disch := first | decide | omega | (simp only [add_next, set_next, grow_next, leave_next, drop_next, List.length_map]; first | done | omega)) only [go_sem, ↓reduceIte, Nat.reduceBEq, Nat.reduceAdd, Nat.reduceLeDiff, Nat.reduceEqDiff, Nat.reduceLT, Nat.reduceMul, winOff_lt, hwr3]; (repeat (with_reducible refine And.intro (by first | omega | assumption | rfl) ?_)))
      have hfx : (flat [x]).length = 6 := by simpa [flat, D.width] using hx
      have hfB : (flat (es.take i)).length = i * 6 := by rw [dflat_length fun d hd => hw d (List.mem_of_mem_take hd), List.length_take]; congr 1; omega
      have hfC : (flat (es.drop i)).length = (es.length - i) * 6 := by rw [dflat_length fun d hd => hw d (List.mem_of_mem_drop hd), List.length_drop]
      have hff : flat es = flat (es.take i) ++ flat (es.drop i) := by rw [← flat_append, List.take_append_drop]
      have hzl : 6 ≤ zs.length := by rw [List.length_append, hff, List.length_append, hfB, hfC] at hl; omega
      have hmin : Nat.min (es.length + 1 - i) (es.length + 1 - (i + 1)) = es.length - i := by show min _ _ = _; omega
      obtain ⟨cs1, hcs1⟩ : ∃ cs1, splice (flat es ++ zs) ((i + 1) * 6) (flat (es.drop i)) = cs1 := ⟨_, rfl⟩
      have hcl : cs1.length = c * 6 := by rw [← hcs1, splice_len, hl]; rw [hl, hfC]; omega
      refine dcopy_win heT hiS (m := es.length + 1 - i) hk (srcOk_win hk (by rw [hsz, hl]; omega)) (by rw [hsz, hmin, hl]; omega) (cs' := cs1) (by
        rw [hsz, hmin, ← hcs1, List.take_take, Nat.min_eq_left (by omega), List.drop_append_of_le_length (by rw [hff, List.length_append, hfB]; omega), flat_drop hw, List.take_append_of_le_length (by omega), List.take_of_length_le (by omega)]) ?_
      (simp (disch := first | decide | omega | (simp only [add_next, set_next, grow_next, leave_next, drop_next, List.length_map]; first | done | omega)) only [go_sem, ↓reduceIte, Nat.reduceBEq, Nat.reduceAdd, Nat.reduceLeDiff, Nat.reduceEqDiff, Nat.reduceLT, Nat.reduceMul, winOff_lt, hwr3]; (repeat (with_reducible refine And.intro (by first | omega | assumption | rfl) ?_)))
      have hmin2 : Nat.min 1 (es.length + 1 - i) = 1 := by show min _ _ = _; omega
      refine dcopy_win heT hiS (m := 1) (cs := cs1) (bt := 28) (news := flat [x]) (by (first | (simp (disch := first | decide | omega | (simp only [add_next, set_next, grow_next, leave_next, drop_next, List.length_map]; first | done | omega)) only [go_sem, ↓reduceIte, Nat.reduceBEq, Nat.reduceAdd, Nat.reduceLeDiff, Nat.reduceEqDiff, Nat.reduceLT, Nat.reduceMul]; first | done | rfl) | rfl)) (srcOk_one (by rw [hsz]; exact hx)) (by rw [hsz, hmin2, hcl]; omega) (cs' := flat (es.take i ++ [x] ++ es.drop i) ++ zs.drop 6) (by rw [hsz, hmin2, List.take_of_length_le (l := flat [x]) (by omega), ← hcs1, hff, ins_old (by rw [hfB]) (by rw [hfB, hfx]; omega) (by omega), hfx, flat_append, flat_append]) ?_
      (simp (disch := first | decide | omega | (simp only [add_next, set_next, grow_next, leave_next, drop_next, List.length_map]; first | done | omega)) only [go_sem, ↓reduceIte, Nat.reduceBEq, Nat.reduceAdd, Nat.reduceLeDiff, Nat.reduceEqDiff, Nat.reduceLT, Nat.reduceMul]; (repeat (with_reducible refine And.intro (by first | omega | assumption | rfl) ?_)))
      rw [St.set_set]
      refine ⟨_, _, thaw_rename (o := .box 28 (flat (es.take i ++ [x] ++ es.drop i) ++ zs.drop 6)) (by simp [St.set]), ?_⟩
      rw [St.set_drop]
      have := h c (zs.drop 6) (by omega) (by
        simp only [List.length_append, flat_append, hfB, hfC, hfx, List.length_drop]
        rw [List.length_append, hff, List.length_append, hfB, hfC] at hl
        omega)
      rw [ownOb_box (by omega)] at this
      exact this

end Go.Proofs.Ytjjhjhjphhpeiaa

namespace Go.Proofs.Ytjjhjhjphhpeiaa
open Go.RowKit
set_option linter.unusedSimpArgs false
set_option linter.unusedVariables false
theorem wVs (l : List DVal) : ∀ d ∈ l.map encV, d.width = 6 := fun d hd => by obtain ⟨p, _, rfl⟩ := List.mem_map.1 hd; exact cells_encV _
theorem wSs (l : List Str) : ∀ d ∈ l.map strD, d.width = 1 := fun d hd => by obtain ⟨p, _, rfl⟩ := List.mem_map.1 hd; rfl
theorem wUs (l : List Nat) : ∀ d ∈ l.map u64D, d.width = 1 := fun d hd => by obtain ⟨p, _, rfl⟩ := List.mem_map.1 hd; rfl
theorem szV : szOf Try.prog 28 = 6 := by kernel_rfl
theorem szS : szOf Try.prog 9 = 1 := by kernel_rfl
theorem szU : szOf Try.prog 24 = 1 := by kernel_rfl
theorem byV : bytesOf Try.prog 28 = 104 := by kernel_rfl
theorem byS : bytesOf Try.prog 9 = 16 := by kernel_rfl
theorem byU : bytesOf Try.prog 24 = 8 := by kernel_rfl
set_option maxRecDepth 200000 in
set_option maxHeartbeats 4000000 in
theorem parts_o (l : List DVal) (hl : l.length ≤ 1000000) (h : ∀ p ∈ l, DPure Try.prog 50 [encV p] (encV p)) {S : St} {K : D → St → Prop}
    (hK : ∀ T k c zs, S.Sub T → T.WF → S.next ≤ k → k < T.next → T.ob k = some (ownOb 28 (l.map encV) zs c) → (flat (l.map encV) ++ zs).length = c * 6 → K (.win k 0 l.length c) T) :
    DCalls Try.prog 75 [.sl .no (l.map encV), .fn (.func 50) [] []] S K := by
  refine DCalls.thaw ?_
  refine dcalls_inline mixed Try.func75 rfl (fun _ _ => by kernel_rfl) (rs := [.tmp 4]) rfl (by kernel_rfl) (fun hS => ?_)
  (simp (disch := first | decide | omega | (simp only [add_next, set_next, grow_next, leave_next, drop_next, List.length_map]; first | done | omega)) only [go_sem, ↓reduceIte, Nat.reduceBEq, Nat.reduceAdd, Nat.reduceLeDiff, Nat.reduceEqDiff, Nat.reduceLT, Nat.reduceMul]; (repeat (with_reducible refine And.intro (by first | omega | assumption | rfl) ?_)))
  refine dloop_up (fun t => List.contains [5, 6, 7, 10, 11, 12, 13, 14, 15, 16, 17, 18, 19, 20] t) (by kernel_rfl) hS l.length (fun i g T => i ≤ l.length ∧ g 10 = .v (.int .i64 ((i : Nat) : Int)) ∧ OwnD Try.prog T 28 ((l.take i).map encV) (g 5) ∧ (∀ k o n c, g 5 = .win k o n c → S.next ≤ k) ∧ S.Sub T) ⟨by omega, by (first | (simp (disch := first | decide | omega | (simp only [add_next, set_next, grow_next, leave_next, drop_next, List.length_map]; first | done | omega)) only [go_sem, ↓reduceIte, Nat.reduceBEq, Nat.reduceAdd, Nat.reduceLeDiff, Nat.reduceEqDiff, Nat.reduceLT, Nat.reduceMul]; first | done | rfl) | rfl), .inl ⟨by simp, by (first | (simp (disch := first | decide | omega | (simp only [add_next, set_next, grow_next, leave_next, drop_next, List.length_map]; first | done | omega)) only [go_sem, ↓reduceIte, Nat.reduceBEq, Nat.reduceAdd, Nat.reduceLeDiff, Nat.reduceEqDiff, Nat.reduceLT, Nat.reduceMul]; first | done | rfl) | rfl)⟩, (fun k o n c e => by simp (disch := first | decide | omega | (simp only [add_next, set_next, grow_next, leave_next, drop_next, List.length_map]; first | done | omega)) only [go_sem, ↓reduceIte, Nat.reduceBEq, Nat.reduceAdd, Nat.reduceLeDiff, Nat.reduceEqDiff, Nat.reduceLT, Nat.reduceMul] at e; cases e), St.Sub.refl S⟩ ?_
  rintro i g T hT hg ⟨le, q10, hO, hlo, hs⟩
  have q8 := hg 8 rfl
  have q1 := hg 1 rfl
  have q9 := hg 9 rfl
  simp (disch := first | decide | omega | (simp only [add_next, set_next, grow_next, leave_next, drop_next, List.length_map]; first | done | omega)) only [go_sem, ↓reduceIte, Nat.reduceBEq, Nat.reduceAdd, Nat.reduceLeDiff, Nat.reduceEqDiff, Nat.reduceLT, Nat.reduceMul] at q8 q9 q1
  clear hg
  by_cases hlt : i < l.length
  · have b1 : decide ((i : Int) < (l.length : Int)) = true := by simp; omega
    have w1 : IntKind.i64.wrap ((i : Int) + 1) = ((i + 1 : Nat) : Int) := IntWalk.i64_in _ ⟨by omega, by omega⟩
    (simp (disch := first | decide | omega | (simp only [add_next, set_next, grow_next, leave_next, drop_next, List.length_map]; first | done | omega)) only [go_sem, ↓reduceIte, Nat.reduceBEq, Nat.reduceAdd, Nat.reduceLeDiff, Nat.reduceEqDiff, Nat.reduceLT, Nat.reduceMul, q8, q9, q1, q10, b1]; (repeat (with_reducible refine And.intro (by first | omega | assumption | rfl) ?_)))
    refine DCalls.of_pure (h l[i] (List.getElem_mem hlt)) ?_
    (simp (disch := first | decide | omega | (simp only [add_next, set_next, grow_next, leave_next, drop_next, List.length_map]; first | done | omega)) only [go_sem, ↓reduceIte, Nat.reduceBEq, Nat.reduceAdd, Nat.reduceLeDiff, Nat.reduceEqDiff, Nat.reduceLT, Nat.reduceMul, q1, q10, w1, St.add_set]; (repeat (with_reducible refine And.intro (by first | omega | assumption | rfl) ?_)))
    have hs1 : T.Sub (T.add (.box 28 (encV l[i]).cells)) := St.Sub.add (St.Sub.refl _) hT _
    refine dapp_ownD (es := (l.take i).map encV) (es2 := [encV l[i]]) (by (first | (simp (disch := first | decide | omega | (simp only [add_next, set_next, grow_next, leave_next, drop_next, List.length_map]; first | done | omega)) only [go_sem, ↓reduceIte, Nat.reduceBEq, Nat.reduceAdd, Nat.reduceLeDiff, Nat.reduceEqDiff, Nat.reduceLT, Nat.reduceMul]; first | done | rfl) | rfl)) (by (first | (simp (disch := first | decide | omega | (simp only [add_next, set_next, grow_next, leave_next, drop_next, List.length_map]; first | done | omega)) only [go_sem, ↓reduceIte, Nat.reduceBEq, Nat.reduceAdd, Nat.reduceLeDiff, Nat.reduceEqDiff, Nat.reduceLT, Nat.reduceMul]; first | done | rfl) | rfl)) (by (first | (simp (disch := first | decide | omega | (simp only [add_next, set_next, grow_next, leave_next, drop_next, List.length_map]; first | done | omega)) only [go_sem, ↓reduceIte, Nat.reduceBEq, Nat.reduceAdd, Nat.reduceLeDiff, Nat.reduceEqDiff, Nat.reduceLT, Nat.reduceMul]; first | done | rfl) | rfl)) (by (first | (simp (disch := first | decide | omega | (simp only [add_next, set_next, grow_next, leave_next, drop_next, List.length_map]; first | done | omega)) only [go_sem, ↓reduceIte, Nat.reduceBEq, Nat.reduceAdd, Nat.reduceLeDiff, Nat.reduceEqDiff, Nat.reduceLT, Nat.reduceMul]; first | done | rfl) | rfl)) (hO.mono hs1) (by rw [szV]; exact wVs _) (by rw [szV]; exact wVs [l[i]]) (by simp; omega) (by rw [byV]; simp; omega) fun c' zs' h2 => ?_
    rw [szV] at h2
    (simp (disch := first | decide | omega | (simp only [add_next, set_next, grow_next, leave_next, drop_next, List.length_map]; first | done | omega)) only [go_sem, ↓reduceIte, Nat.reduceBEq, Nat.reduceAdd, Nat.reduceLeDiff, Nat.reduceEqDiff, Nat.reduceLT, Nat.reduceMul, q1, q10, w1]; (repeat (with_reducible refine And.intro (by first | omega | assumption | rfl) ?_)))
    have hli : (l.take i).length = i := by rw [List.length_take]; omega
    have hsl := OwnD.sub (P := Try.prog) hS (hs.trans hs1) (hO.mono hs1) hlo
    have hwf := (hT.add (.box 28 (encV l[i]).cells)).left (g 5)
    have e1 : (l.take i).map encV ++ [encV l[i]] = (l.take (i + 1)).map encV := by rw [List.take_succ_eq_append_getElem hlt, List.map_append]; rfl
    have hl1 : (l.take (i + 1)).length = i + 1 := by rw [List.length_take]; omega
    have hsn := hs.next
    refine ⟨hlt, _, fun _ _ h => h, by omega, by (first | (simp (disch := first | decide | omega | (simp only [add_next, set_next, grow_next, leave_next, drop_next, List.length_map]; first | done | omega)) only [go_sem, ↓reduceIte, Nat.reduceBEq, Nat.reduceAdd, Nat.reduceLeDiff, Nat.reduceEqDiff, Nat.reduceLT, Nat.reduceMul]; first | done | rfl) | rfl), .inr ⟨T.next + 1, c', zs', by simp (disch := first | decide | omega | (simp only [add_next, set_next, grow_next, leave_next, drop_next, List.length_map]; first | done | omega)) only [go_sem, ↓reduceIte, Nat.reduceBEq, Nat.reduceAdd, Nat.reduceLeDiff, Nat.reduceEqDiff, Nat.reduceLT, Nat.reduceMul]; rw [hli, hl1], ?_, ?_, ?_⟩, ?_, ?_⟩
    · show (if T.next + 1 = ((T.add _).left _).next then _ else _) = _
      rw [left_next, add_next, if_pos rfl, e1]
    · rw [szV, ← e1]; exact h2
    · show T.next + 1 < ((T.add _).left _).next + 1
      rw [left_next, add_next]; omega
    · intro k o n c e
      simp (disch := first | decide | omega | (simp only [add_next, set_next, grow_next, leave_next, drop_next, List.length_map]; first | done | omega)) only [go_sem, ↓reduceIte, Nat.reduceBEq, Nat.reduceAdd, Nat.reduceLeDiff, Nat.reduceEqDiff, Nat.reduceLT, Nat.reduceMul] at e
      injection e with e _ _ _
      omega
    · exact hsl.add hS _
  · have b1 : decide ((i : Int) < (l.length : Int)) = false := by simp; omega
    (simp (disch := first | decide | omega | (simp only [add_next, set_next, grow_next, leave_next, drop_next, List.length_map]; first | done | omega)) only [go_sem, ↓reduceIte, Nat.reduceBEq, Nat.reduceAdd, Nat.reduceLeDiff, Nat.reduceEqDiff, Nat.reduceLT, Nat.reduceMul, q8, q9, q1, q10, b1]; (repeat (with_reducible refine And.intro (by first | omega | assumption | rfl) ?_)))
    have hil : i = l.length := by omega
    rw [hil, List.take_of_length_le (Nat.le_refl _)] at hO
    obtain ⟨S1, k, c, zs, k1, k2, k3, k4, k5, k6⟩ := hO.win
    refine ⟨S1, _, k1, ?_⟩
    rw [List.length_map]
    have hsn := hs.next
    have hlk : S.next ≤ k := by
      rcases k6 with ⟨o, n, c', e⟩ | rfl
      · exact hlo _ _ _ _ e
      · exact hsn
    rcases k2 with rfl | rfl
    · exact hK _ k c zs hs hT hlk k5 k3 (by rw [← szV]; exact k4)
    · exact hK _ k c zs (hs.add hS _) (hT.add _) hlk k5 k3 (by rw [← szV]; exact k4)
/-- A value whose slices are owned. -/
def ownV (v : DVal) (a b c ca cb cc : Nat) : D := .agg [.v (.int .i64 v.kind), .v (.int .i64 v.n), .v (sv v.s), .win a 0 v.names.length ca, .win b 0 v.ids.length cb, .win c 0 v.parts.length cc]
structure OV (T : St) (v : DVal) (a b c ca cb cc : Nat) (zn zi zp : List D) : Prop where
  obn : T.ob a = some (ownOb 9 (v.names.map strD) zn ca)
  ln : (flat (v.names.map strD) ++ zn).length = ca * 1
  obi : T.ob b = some (ownOb 24 (v.ids.map u64D) zi cb)
  li : (flat (v.ids.map u64D) ++ zi).length = cb * 1
  obp : T.ob c = some (ownOb 28 (v.parts.map encV) zp cc)
  lp : (flat (v.parts.map encV) ++ zp).length = cc * 6
  ab : a ≠ b
  ac : a ≠ c
  bc : b ≠ c
set_option maxRecDepth 200000 in
set_option maxHeartbeats 4000000 in
theorem copy_o (v : DVal) (hw : v.weight ≤ 1000000) {S : St} {K : D → St → Prop}
    (hK : ∀ T a b c ca cb cc zn zi zp, S.Sub T → T.WF → S.next ≤ a → S.next ≤ b → S.next ≤ c → OV T v a b c ca cb cc zn zi zp → K (ownV v a b c ca cb cc) T) :
    DCalls Try.prog 50 [encV v] S K := by
  have hwe := v.weight_eq
  have hpl := partsLen v
  refine dcalls_inline mixed Try.func50 rfl (fun _ _ => by kernel_rfl) (rs := [.cell 2 28]) rfl (by kernel_rfl) (fun hS => ?_)
  (simp (disch := first | decide | omega | (simp only [add_next, set_next, grow_next, leave_next, drop_next, List.length_map]; first | done | omega)) only [go_sem, ↓reduceIte, Nat.reduceBEq, Nat.reduceAdd, Nat.reduceLeDiff, Nat.reduceEqDiff, Nat.reduceLT, Nat.reduceMul, encV_eq v]; (repeat (with_reducible refine And.intro (by first | omega | assumption | rfl) ?_)))
  have heS : elT Try.prog 22 = some 9 := by kernel_rfl
  have heU : elT Try.prog 26 = some 24 := by kernel_rfl
  refine ddraw_cut (fun g T => g 1 = .loc S.next 0 ∧ g 2 = .loc (S.next + 1) 0 ∧ ∃ a b ca cb zn zi, T.ob S.next = some (.box 28 [.v (.int .i64 v.kind), .v (.int .i64 v.n), .v (sv v.s), .win a 0 v.names.length ca, .win b 0 v.ids.length cb, .sl .no (v.parts.map encV)]) ∧ T.ob (S.next + 1) = some (.box 28 [.v (.int .i64 0), .v (.int .i64 0), .v (.string ⟨#[]⟩), .sl .full [], .sl .full [], .sl .full []]) ∧ S.Sub T ∧ T.WF ∧ S.next + 2 ≤ a ∧ S.next + 2 ≤ b ∧ a < T.next ∧ b < T.next ∧ a ≠ b ∧
    T.ob a = some (ownOb 9 (v.names.map strD) zn ca) ∧ (flat (v.names.map strD) ++ zn).length = ca * 1 ∧ T.ob b = some (ownOb 24 (v.ids.map u64D) zi cb) ∧ (flat (v.ids.map u64D) ++ zi).length = cb * 1) ?_ ?_
  · refine ddraw_any (fun T => T.ob S.next = some (.box 28 [.v (.int .i64 v.kind), .v (.int .i64 v.n), .v (sv v.s), .sl .no (v.names.map strD), .sl .no (v.ids.map u64D), .sl .no (v.parts.map encV)])) 7 (by (first | (simp (disch := first | decide | omega | (simp only [add_next, set_next, grow_next, leave_next, drop_next, List.length_map]; first | done | omega)) only [go_sem, ↓reduceIte, Nat.reduceBEq, Nat.reduceAdd, Nat.reduceLeDiff, Nat.reduceEqDiff, Nat.reduceLT, Nat.reduceMul, strD]; first | done | rfl) | rfl)) (by kernel_rfl) ?_
    (refine s_take 0 rfl (by kernel_rfl) (by kernel_rfl) (v := ?v1) (fun S' hz => dquietR_of ?h1) ?k1; (case h1 => ((simp (disch := first | decide | omega | (simp only [add_next, set_next, grow_next, leave_next, drop_next, List.length_map]; first | done | omega)) only [go_sem, ↓reduceIte, Nat.reduceBEq, Nat.reduceAdd, Nat.reduceLeDiff, Nat.reduceEqDiff, Nat.reduceLT, Nat.reduceMul, hz]; (repeat (with_reducible refine And.intro (by first | omega | assumption | rfl) ?_))); first | done | exact rfl | omega)); refine s_take 1 rfl (by kernel_rfl) (by kernel_rfl) (v := ?v2) (fun S' hz => dquietR_of ?h2) ?k2; (case h2 => ((simp (disch := first | decide | omega | (simp only [add_next, set_next, grow_next, leave_next, drop_next, List.length_map]; first | done | omega)) only [go_sem, ↓reduceIte, Nat.reduceBEq, Nat.reduceAdd, Nat.reduceLeDiff, Nat.reduceEqDiff, Nat.reduceLT, Nat.reduceMul, hz]; (repeat (with_reducible refine And.intro (by first | omega | assumption | rfl) ?_))); first | done | exact rfl | omega)); refine s_take 3 rfl (by kernel_rfl) (by kernel_rfl) (v := ?v3) (fun S' hz => dquietR_of ?h3) ?k3; (case h3 => ((simp (disch := first | decide | omega | (simp only [add_next, set_next, grow_next, leave_next, drop_next, List.length_map]; first | done | omega)) only [go_sem, ↓reduceIte, Nat.reduceBEq, Nat.reduceAdd, Nat.reduceLeDiff, Nat.reduceEqDiff, Nat.reduceLT, Nat.reduceMul, hz]; (repeat (with_reducible refine And.intro (by first | omega | assumption | rfl) ?_))); first | done | exact rfl | omega)); refine s_take 4 rfl (by kernel_rfl) (by kernel_rfl) (v := ?v4) (fun S' hz => dquietR_of ?h4) ?k4; (case h4 => ((simp (disch := first | decide | omega | (simp only [add_next, set_next, grow_next, leave_next, drop_next, List.length_map]; first | done | omega)) only [go_sem, ↓reduceIte, Nat.reduceBEq, Nat.reduceAdd, Nat.reduceLeDiff, Nat.reduceEqDiff, Nat.reduceLT, Nat.reduceMul, hz]; (repeat (with_reducible refine And.intro (by first | omega | assumption | rfl) ?_))); first | done | exact rfl | omega)))
    (refine s_split [2] (by kernel_rfl) (by simp) ?_; intro j_ hj_; obtain rfl : j_ = 2 := (by simpa using hj_); clear hj_; refine s_op rfl ?_; (simp (disch := first | decide | omega | (simp only [add_next, set_next, grow_next, leave_next, drop_next, List.length_map]; first | done | omega)) only [go_sem, ↓reduceIte, Nat.reduceBEq, Nat.reduceAdd, Nat.reduceLeDiff, Nat.reduceEqDiff, Nat.reduceLT, Nat.reduceMul]; (repeat (with_reducible refine And.intro (by first | omega | assumption | rfl) ?_))))
    refine dapp_nil heS (dappend_fresh heS (by rw [heS]; rfl) (by kernel_rfl) (by kernel_rfl) (es2 := v.names.map strD) (srcOk_sl (by rw [szS]; exact wSs _)) rfl (by rw [List.length_map]; omega) (by rw [byS, List.length_map]; omega) fun ca zn _ hln => ?_)
    rw [szS] at hln
    rw [List.length_map]
    refine ⟨by (first | (simp (disch := first | decide | omega | (simp only [add_next, set_next, grow_next, leave_next, drop_next, List.length_map]; first | done | omega)) only [go_sem, ↓reduceIte, Nat.reduceBEq, Nat.reduceAdd, Nat.reduceLeDiff, Nat.reduceEqDiff, Nat.reduceLT, Nat.reduceMul]; first | done | rfl) | rfl), ?_⟩
    (refine s_take 6 rfl (by kernel_rfl) (by kernel_rfl) (v := ?v5) (fun S' hz => dquietR_of ?h5) ?k5; (case h5 => ((simp (disch := first | decide | omega | (simp only [add_next, set_next, grow_next, leave_next, drop_next, List.length_map]; first | done | omega)) only [go_sem, ↓reduceIte, Nat.reduceBEq, Nat.reduceAdd, Nat.reduceLeDiff, Nat.reduceEqDiff, Nat.reduceLT, Nat.reduceMul, hz]; (repeat (with_reducible refine And.intro (by first | omega | assumption | rfl) ?_))); first | done | exact rfl | omega)))
    (refine s_split [5] (by kernel_rfl) (by simp) ?_; intro j_ hj_; obtain rfl : j_ = 5 := (by simpa using hj_); clear hj_; refine s_op rfl ?_; (simp (disch := first | decide | omega | (simp only [add_next, set_next, grow_next, leave_next, drop_next, List.length_map]; first | done | omega)) only [go_sem, ↓reduceIte, Nat.reduceBEq, Nat.reduceAdd, Nat.reduceLeDiff, Nat.reduceEqDiff, Nat.reduceLT, Nat.reduceMul]; (repeat (with_reducible refine And.intro (by first | omega | assumption | rfl) ?_))))
    refine dapp_nil heU (dappend_fresh heU (by rw [heU]; rfl) (by kernel_rfl) (by kernel_rfl) (es2 := v.ids.map u64D) (srcOk_sl (by rw [szU]; exact wUs _)) rfl (by rw [List.length_map]; omega) (by rw [byU, List.length_map]; omega) fun cb zi _ hli => ?_)
    rw [szU] at hli
    rw [List.length_map]
    refine ⟨by (first | (simp (disch := first | decide | omega | (simp only [add_next, set_next, grow_next, leave_next, drop_next, List.length_map]; first | done | omega)) only [go_sem, ↓reduceIte, Nat.reduceBEq, Nat.reduceAdd, Nat.reduceLeDiff, Nat.reduceEqDiff, Nat.reduceLT, Nat.reduceMul]; first | done | rfl) | rfl), ?_⟩
    (refine s_done (by kernel_rfl) ?_; (simp (disch := first | decide | omega | (simp only [add_next, set_next, grow_next, leave_next, drop_next, List.length_map]; first | done | omega)) only [go_sem, ↓reduceIte, Nat.reduceBEq, Nat.reduceAdd, Nat.reduceLeDiff, Nat.reduceEqDiff, Nat.reduceLT, Nat.reduceMul]; (repeat (with_reducible refine And.intro (by first | omega | assumption | rfl) ?_))))
    refine ⟨_, _, _, _, zn, zi, rfl, ?_, ?_, by omega, by omega, ?_, ?_, by omega, ?_, hln, ?_, hli⟩
    · exact (by (repeat' first | assumption | exact St.Sub.refl _ | exact RowOk.sub (by assumption) (by assumption) | refine St.Sub.trans ?_ (RowOk.sub (by assumption) (by assumption)) | refine St.Sub.add ?_ ?_ _ | refine St.Sub.set ?_ ?_ ?_ _ | refine St.Sub.keep ?_ ?_ | refine St.WF.leave ?_ _ | refine St.WF.add ?_ _ | refine St.WF.set ?_ ?_ _ | refine St.WF.grow ?_ _ _ _ | refine St.WF.keep ?_ ?_ | (first | omega | (simp only [RowOk.lo, add_next, set_next, grow_next, leave_next, drop_next]; first | done | omega))))
    · exact (by (repeat' first | assumption | refine St.WF.leave ?_ _ | refine St.WF.add ?_ _ | refine St.WF.set ?_ ?_ _ | refine St.WF.grow ?_ _ _ _ | refine St.WF.keep ?_ ?_ | (first | omega | (simp only [RowOk.lo, add_next, set_next, grow_next, leave_next, drop_next]; first | done | omega))))
    · omega
    · omega
    · (first | (simp (disch := first | decide | omega | (simp only [add_next, set_next, grow_next, leave_next, drop_next, List.length_map]; first | done | omega)) only [go_sem, ↓reduceIte, Nat.reduceBEq, Nat.reduceAdd, Nat.reduceLeDiff, Nat.reduceEqDiff, Nat.reduceLT, Nat.reduceMul]; first | done | rfl) | rfl)
    · (first | (simp (disch := first | decide | omega | (simp only [add_next, set_next, grow_next, leave_next, drop_next, List.length_map]; first | done | omega)) only [go_sem, ↓reduceIte, Nat.reduceBEq, Nat.reduceAdd, Nat.reduceLeDiff, Nat.reduceEqDiff, Nat.reduceLT, Nat.reduceMul]; first | done | rfl) | rfl)
  · rintro g T ⟨q1, q2, a, b, ca, cb, zn, zi, t0, t1, hs, hT, ha, hb, ha', hb', hab, hn1, hn2, hi1, hi2⟩
    (simp (disch := first | decide | omega | (simp only [add_next, set_next, grow_next, leave_next, drop_next, List.length_map]; first | done | omega)) only [go_sem, ↓reduceIte, Nat.reduceBEq, Nat.reduceAdd, Nat.reduceLeDiff, Nat.reduceEqDiff, Nat.reduceLT, Nat.reduceMul, q1, q2, t0, t1]; (repeat (with_reducible refine And.intro (by first | omega | assumption | rfl) ?_)))
    refine parts_o v.parts (by omega) (fun p hp => copyV_d p.depth p (Nat.le_refl _) (by have := DVal.weight_part hp; omega)) fun T1 c cc zp hs1 hT1 hc1 hc2 hp1 hp2 => ?_
    have u0 := hs1.ob _ _ t0
    have u1 := hs1.ob _ _ t1
    have ua := hs1.ob _ _ hn1
    have ub := hs1.ob _ _ hi1
    (simp (disch := first | decide | omega | (simp only [add_next, set_next, grow_next, leave_next, drop_next, List.length_map]; first | done | omega)) only [go_sem, ↓reduceIte, Nat.reduceBEq, Nat.reduceAdd, Nat.reduceLeDiff, Nat.reduceEqDiff, Nat.reduceLT, Nat.reduceMul, q1, q2, u0, u1]; (repeat (with_reducible refine And.intro (by first | omega | assumption | rfl) ?_)))
    have hsn := hs.next
    have hsn1 := hs1.next
    have hst : S.Sub T1 := hs.trans hs1
    refine hK _ a b c ca cb cc zn zi zp ?_ ?_ (by omega) (by omega) (by omega) ⟨?_, hn2, ?_, hi2, ?_, hp2, hab, by omega, by omega⟩
    · exact (hst.set hS (Nat.le_refl _) _).set hS (by omega) _
    · exact (hT1.set (by omega) _).set (by show S.next + 1 < T1.next; omega) _
    · (first | (simp (disch := first | decide | omega | (simp only [add_next, set_next, grow_next, leave_next, drop_next, List.length_map]; first | done | omega)) only [go_sem, ↓reduceIte, Nat.reduceBEq, Nat.reduceAdd, Nat.reduceLeDiff, Nat.reduceEqDiff, Nat.reduceLT, Nat.reduceMul, ua]; first | done | rfl) | rfl)
    · (first | (simp (disch := first | decide | omega | (simp only [add_next, set_next, grow_next, leave_next, drop_next, List.length_map]; first | done | omega)) only [go_sem, ↓reduceIte, Nat.reduceBEq, Nat.reduceAdd, Nat.reduceLeDiff, Nat.reduceEqDiff, Nat.reduceLT, Nat.reduceMul, ub]; first | done | rfl) | rfl)
    · (first | (simp (disch := first | decide | omega | (simp only [add_next, set_next, grow_next, leave_next, drop_next, List.length_map]; first | done | omega)) only [go_sem, ↓reduceIte, Nat.reduceBEq, Nat.reduceAdd, Nat.reduceLeDiff, Nat.reduceEqDiff, Nat.reduceLT, Nat.reduceMul, hp1]; first | done | rfl) | rfl)
end Go.Proofs.Ytjjhjhjphhpeiaa

namespace Go.Proofs.Ytjjhjhjphhpeiaa
open Go.RowKit
set_option linter.unusedSimpArgs false
set_option linter.unusedVariables false
theorem thawOV {T : St} {v : DVal} {a b c ca cb cc : Nat} {zn zi zp : List D} (h : OV T v a b c ca cb cc zn zi zp) : Thaw Try.prog T (ownV v a b c ca cb cc) (((T.drop a).drop b).drop c) (encV v) := by
  have hba : b ≠ a := fun e => h.ab e.symm
  have hca : c ≠ a := fun e => h.ac e.symm
  have hcb : c ≠ b := fun e => h.bc e.symm
  have n1 := ownOb_len (wSs v.names) (by omega) h.ln
  have n2 := ownOb_len (wUs v.ids) (by omega) h.li
  have n3 := ownOb_len (wVs v.parts) (by omega) h.lp
  have bne : ∀ {x y : Nat}, x ≠ y → Nat.beq x y = false := fun {x y} hne => by
    cases hb : Nat.beq x y with
    | false => rfl
    | true => exact absurd (Nat.eq_of_beq_eq_true hb) hne
  refine Thaw.trans (thaw_own (zs := zn) h.obn n1 (by rw [szS]; omega) (by rw [szS]; exact wSs _) rfl) ?_
  refine Thaw.trans (thaw_own (k := b) (zs := zi) (c := cb) (e := 24) (es := v.ids.map u64D) (by simp only [St.drop, if_neg hba]; exact h.obi) n2 (by rw [szU]; omega) (by rw [szU]; exact wUs _) rfl) ?_
  refine thaw_own (k := c) (zs := zp) (c := cc) (e := 28) (es := v.parts.map encV) (by simp only [St.drop, if_neg hca, if_neg hcb]; exact h.obp) n3 (by rw [szV]; omega) (by rw [szV]; exact wVs _) ?_
  simp only [ownV, D.thaw, thawL, List.length_map, Nat.beq_refl, Bool.and_self, Bool.and_true, cond_true, bne h.ab, bne h.ac, bne h.bc, bne hba, bne hca, bne hcb, Bool.false_and, cond_false]
  rw [encV_eq]
  rfl
section
variable {P : Program} {base : Nat} {S : St} {η : Names} {w : World}
theorem flat_vs {α : Type} (g : α → Value) (l : List α) : flat (l.map fun a => D.v (g a)) = l.map fun a => D.v (g a) := by
  induction l with
  | nil => rfl
  | cons a l ih =>
    have : flat ((a :: l).map fun a => D.v (g a)) = D.v (g a) :: flat (l.map fun a => D.v (g a)) := by simp [flat, D.cells]
    rw [this, ih]
    rfl
/-- An owned slice of scalars, in memory. -/
theorem win_scalars {α : Type} (g : α → Value) (hM : Mem P base S η w) {k c : Nat} {e : TypeId} {l : List α} {zs : List D} {y : Value} (hk : S.ob k = some (ownOb e (l.map fun a => D.v (g a)) zs c)) (hc : l.length ≤ c) (h : Rep P w η (Fix P S η) (.win k 0 l.length c) y) :
    ∃ A, y = .slice A l.length c ∧ RF w (· < w.heap.size) 1 A l.length (l.map g) := by
  obtain ⟨us, ⟨⟨A, c', rfl, _, hA⟩, h2, h3⟩, h4⟩ := srcOk_at hM (z := 1) (m := l.length) (news := flat (l.map fun a => D.v (g a))) (by
    have := srcOk_ownA (z := 1) (c' := c) hk (by rw [List.length_map]; exact hc) (fun d hd => by obtain ⟨a, _, rfl⟩ := List.mem_map.1 hd; rfl)
    rwa [List.length_map] at this) h
  rw [flat_vs] at h4
  have hus : us = l.map g := by
    have : ∀ (l : List α) (us : List Value), RepL P w η (Fix P S η) (l.map fun a => D.v (g a)) us → us = l.map g := by
      intro l
      induction l with
      | nil => intro us h; simp only [List.map_nil, RepL] at h; simp [h]
      | cons a l ih =>
        intro us h
        simp only [List.map_cons, RepL, Rep] at h
        obtain ⟨x, xs, rfl, rfl, h⟩ := h
        rw [ih xs h]; rfl
    exact this l us h4
  subst hus
  obtain ⟨A', e1, _⟩ := h.win_slice
  injection e1 with e1 _ e2
  subst e2
  refine ⟨A, rfl, by simp, fun h0 => ?_⟩
  rcases hA with ⟨_, h0'⟩ | ⟨a, rfl, ha⟩
  · omega
  · have hr := h
    simp only [Rep] at hr
    rcases hr with ⟨b, hb, e, _⟩ | ⟨_, h0', _⟩
    · injection e with e
      injection e with e
      subst e
      refine ⟨b, 0, rfl, (hM.in_ k b hb).2, fun j u hu => ?_⟩
      have := ha j u hu
      rwa [Addr.add_mid] at this
    · omega
end
theorem uIndex_w {S : St} {k c : Nat} {zs : List D} {K : D → St → Prop} (l : List Nat) (x : Nat) (hn : l.length ≤ 140737488351232) (hk : S.ob k = some (ownOb 24 (l.map u64D) zs c)) (hc : l.length ≤ c) (h : K (.v (.int .i64 (ixI l x))) S) :
    DCalls Try.prog 36 [.win k 0 l.length c, .v (uv x)] S K := fun base η w vs hM hr => by
  simp only [RepL] at hr
  obtain ⟨y, ys, rfl, h1, z, zs, rfl, h2, rfl⟩ := hr
  obtain ⟨A, rfl, hf⟩ := win_scalars uv hM hk hc h1
  simp only [Rep] at h2
  subst h2
  refine .inl ⟨by kernel_rfl, (uIndex_calls l x A c w hf hn).mono fun e w' ⟨he, hw⟩ => ?_⟩
  subst hw
  exact ⟨_, S, η, _, h, idxP_ix he, by simp only [Rep], Goes.refl hM⟩
end Go.Proofs.Ytjjhjhjphhpeiaa

namespace Go.Proofs.Ytjjhjhjphhpeiaa
open Go.RowKit
set_option linter.unusedSimpArgs false
set_option linter.unusedVariables false
theorem inl_cell_tmp_normal {P : Program} {f : Fm} {K : D → St → Prop} (x : Tmp) (t : TypeId) (u : Tmp) (S' : St) : DQ.inl P [.cell x t, .tmp u] K .normal f S' = dcellR P S' t (f x) (fun r => K (.tup [r, f u]) S') := by
  rw [← onVal_cell]
  simp [DQ.inl, dresL, dres, onVal, one]
theorem inl_cell_tmp_ret {P : Program} {f : Fm} {K : D → St → Prop} (x : Tmp) (t : TypeId) (u : Tmp) (S' : St) : DQ.inl P [.cell x t, .tmp u] K .ret f S' = dcellR P S' t (f x) (fun r => K (.tup [r, f u]) S') := by
  rw [← onVal_cell]
  simp [DQ.inl, dresL, dres, onVal, one]
attribute [go_sem] inl_cell_tmp_normal inl_cell_tmp_ret
/-- What is told of by Q stays. -/
structure Fz (Q : Nat → Prop) (T X : St) : Prop where
  next : T.next ≤ X.next
  ob : ∀ j o, Q j → T.ob j = some o → X.ob j = some o
section
variable {Q Q' : Nat → Prop} {T X Y : St} {k : Nat} {o : Ob}
theorem Fz.refl (Q : Nat → Prop) (T : St) : Fz Q T T := ⟨Nat.le_refl _, fun _ _ _ h => h⟩
theorem Fz.trans (h : Fz Q T X) (g : Fz Q X Y) : Fz Q T Y := ⟨Nat.le_trans h.next g.next, fun j o hj e => g.ob j o hj (h.ob j o hj e)⟩
theorem Fz.mono (h : Fz Q T X) (hq : ∀ j, Q' j → Q j) : Fz Q' T X := ⟨h.next, fun j o hj e => h.ob j o (hq j hj) e⟩
theorem Fz.sub (h : T.Sub X) : Fz Q T X := ⟨h.next, fun j o _ e => h.ob j o e⟩
theorem Fz.set (h : Fz Q T X) (hT : T.WF) (hk : ¬ Q k ∨ T.next ≤ k) : Fz Q T (X.set k o) := ⟨h.next, fun j o' hj e => by
  have := hT.lt e
  have hne : j ≠ k := fun e2 => by
    subst e2
    rcases hk with hk | hk
    · exact hk hj
    · omega
  show (if j = k then _ else X.ob j) = _
  rw [if_neg hne]
  exact h.ob j o' hj e⟩
theorem Fz.add (h : Fz Q T X) (hT : T.WF) : Fz Q T (X.add o) := ⟨Nat.le_succ_of_le h.next, fun j o' hj e => by
  have := hT.lt e
  have := h.next
  rw [add_ob, if_neg (by omega)]
  exact h.ob j o' hj e⟩
theorem Fz.drop (h : Fz Q T X) (hT : T.WF) (hk : ¬ Q k ∨ T.next ≤ k) : Fz Q T (X.drop k) := ⟨h.next, fun j o' hj e => by
  have := hT.lt e
  have hne : j ≠ k := fun e2 => by
    subst e2
    rcases hk with hk | hk
    · exact hk hj
    · omega
  show (if j = k then none else X.ob j) = _
  rw [if_neg hne]
  exact h.ob j o' hj e⟩
end
/-- What a call has left: all but c stays; where nothing was visited, c too. -/
structure Aft (c : Nat) (Post : DVal → Nat → St → Prop) (r : Option DVal) (S T : St) : Prop where
  fr : Fz (· ≠ c) S T
  cob : r = none → Fz (· = c) S T
  post : ∀ u, r = some u → ∃ n, S.next ≤ n ∧ Post u n T
def Mono (c : Nat) (Post : DVal → Nat → St → Prop) : Prop := ∀ u n (T T' : St), Post u n T → Fz (fun j => j = c ∨ n ≤ j) T T' → Post u n T'
/-- What the visitor is asked for. -/
def VisG (g : FuncId) (fs cs : List D) (fV : DVal → DVal) (c : Nat) (Post : DVal → Nat → St → Prop) (S : St) : Prop := ∀ S' u, S.Sub S' → S'.WF → u.weight ≤ 1000000 → okV u → DCalls Try.prog g (fs ++ [encV u] ++ cs) S' (fun d T => d = encV (fV u) ∧ Aft c Post (some u) S' T ∧ T.WF)
theorem VisG.sub {g : FuncId} {fs cs : List D} {fV : DVal → DVal} {c : Nat} {Post : DVal → Nat → St → Prop} {S T : St} (h : VisG g fs cs fV c Post S) (hs : S.Sub T) : VisG g fs cs fV c Post T :=
  fun S' u h1 h2 h3 => h S' u (hs.trans h1) h2 h3
set_option maxRecDepth 200000 in
set_option maxHeartbeats 8000000 in
theorem change_o (g : FuncId) (fs cs : List D) (fV : DVal → DVal) (c : Nat) (Post : DVal → Nat → St → Prop) (hP : Mono c Post) : ∀ (ps : List DStp) (own : Own) (v : DVal) (S : St), okV v → v.weight ≤ 1000000 → ps.length ≤ 1000000 → c < S.next → VisG g fs cs fV c Post S →
    DCalls Try.prog 66 [encV v, .sl own (ps.map encP), .fn (.func g) fs cs] S (fun d T => d = .tup [encV (chV fV ps v), .v (.bool (getV ps v).isSome)] ∧ Aft c Post (getV ps v) S T ∧ T.WF) := by
  intro ps
  induction ps with
  | nil =>
    intro own v S hok hw hl hcS hv
    refine dcalls_inline mixed Try.func66 rfl (fun _ _ => by kernel_rfl) (rs := [.cell 6 28, .tmp 7]) rfl (by kernel_rfl) (fun hS => ?_)
    (simp (disch := first | decide | omega | (simp only [add_next, set_next, grow_next, leave_next, drop_next, List.length_map]; first | done | omega)) only [go_sem, ↓reduceIte, Nat.reduceBEq, Nat.reduceAdd, Nat.reduceLeDiff, Nat.reduceEqDiff, Nat.reduceLT, Nat.reduceMul]; (repeat (with_reducible refine And.intro (by first | omega | assumption | rfl) ?_)))
    have hS2 := ((hS.add (.box 28 (encV v).cells)).add (.box 28 [.v (.int .i64 0), .v (.int .i64 0), .v (.string ⟨#[]⟩), .sl .full [], .sl .full [], .sl .full []]))
    refine (hv _ v (by (repeat' first | assumption | exact St.Sub.refl _ | exact RowOk.sub (by assumption) (by assumption) | refine St.Sub.trans ?_ (RowOk.sub (by assumption) (by assumption)) | refine St.Sub.add ?_ ?_ _ | refine St.Sub.set ?_ ?_ ?_ _ | refine St.Sub.keep ?_ ?_ | refine St.WF.leave ?_ _ | refine St.WF.add ?_ _ | refine St.WF.set ?_ ?_ _ | refine St.WF.grow ?_ _ _ _ | refine St.WF.keep ?_ ?_ | (first | omega | (simp only [RowOk.lo, add_next, set_next, grow_next, leave_next, drop_next]; first | done | omega)))) (by (repeat' first | assumption | refine St.WF.leave ?_ _ | refine St.WF.add ?_ _ | refine St.WF.set ?_ ?_ _ | refine St.WF.grow ?_ _ _ _ | refine St.WF.keep ?_ ?_ | (first | omega | (simp only [RowOk.lo, add_next, set_next, grow_next, leave_next, drop_next]; first | done | omega)))) hw hok).mono ?_
    rintro d T ⟨rfl, hA, hT⟩
    have u3 := hA.fr.ob (S.next + 1) _ (by omega) (by (first | (simp (disch := first | decide | omega | (simp only [add_next, set_next, grow_next, leave_next, drop_next, List.length_map]; first | done | omega)) only [go_sem, ↓reduceIte, Nat.reduceBEq, Nat.reduceAdd, Nat.reduceLeDiff, Nat.reduceEqDiff, Nat.reduceLT, Nat.reduceMul]; first | done | rfl) | rfl))
    have hn := hA.fr.next
    simp only [add_next] at hn
    (simp (disch := first | decide | omega | (simp only [add_next, set_next, grow_next, leave_next, drop_next, List.length_map]; first | done | omega)) only [go_sem, ↓reduceIte, Nat.reduceBEq, Nat.reduceAdd, Nat.reduceLeDiff, Nat.reduceEqDiff, Nat.reduceLT, Nat.reduceMul, u3]; (repeat (with_reducible refine And.intro (by first | omega | assumption | rfl) ?_)))
    refine ⟨rfl, ⟨?_, fun h => (by cases h), fun u hu => ?_⟩, hT.set (by omega) _⟩
    · exact (((((Fz.refl _ S).add hS).add hS).trans hA.fr).set hS (.inr (by omega)))
    · injection hu with hu
      subst hu
      obtain ⟨n, hn1, hn2⟩ := hA.post _ rfl
      simp only [add_next] at hn1
      exact ⟨n, by omega, hP _ _ _ _ hn2 ((Fz.refl _ T).set hT (.inl (by omega)))⟩
  | cons p ps ih =>
    intro own v S hok hw hl hcS hv
    refine DCalls.thaw ?_
    refine dcalls_inline mixed Try.func66 rfl (fun _ _ => by kernel_rfl) (rs := [.cell 6 28, .tmp 7]) rfl (by kernel_rfl) (fun hS => ?_)
    have b0 : (((ps.length + 1 : Nat) : Int) == 0) = false := by simp; omega
    (simp (disch := first | decide | omega | (simp only [add_next, set_next, grow_next, leave_next, drop_next, List.length_map]; first | done | omega)) only [go_sem, ↓reduceIte, Nat.reduceBEq, Nat.reduceAdd, Nat.reduceLeDiff, Nat.reduceEqDiff, Nat.reduceLT, Nat.reduceMul, b0]; (repeat (with_reducible refine And.intro (by first | omega | assumption | rfl) ?_)))
    refine ddraw_mk 10 (by kernel_rfl) ?_
    (simp (disch := first | decide | omega | (simp only [add_next, set_next, grow_next, leave_next, drop_next, List.length_map]; first | done | omega)) only [go_sem, ↓reduceIte, Nat.reduceBEq, Nat.reduceAdd, Nat.reduceLeDiff, Nat.reduceEqDiff, Nat.reduceLT, Nat.reduceMul]; (repeat (with_reducible refine And.intro (by first | omega | assumption | rfl) ?_)))
    refine dqgo_mk (part_d v p hok hw) ?_
    by_cases hin : inP v p
    · have e1 : (decide (0 ≤ placeOf v p) && decide (placeOf v p < (v.parts.length : Int))) = true := by rw [decide_eq_true hin.1, decide_eq_true hin.2]; rfl
      have hpl : (placeOf v p).toNat < v.parts.length := by have := hin.1; have := hin.2; omega
      have hx := getD_map encV v.parts _ hpl
      have cv : (encV v).cells = [.v (.int .i64 v.kind), .v (.int .i64 v.n), strD v.s, .sl .no (v.names.map strD), .sl .no (v.ids.map u64D), .sl .no (v.parts.map encV)] := by rw [encV_eq]; rfl
      obtain ⟨o1, o2, o3, o4, o5, o6, o7, o8, o9⟩ := (okV_eq v).1 hok
      have hgd : v.parts.getD (plN v p) default = v.parts[(placeOf v p).toNat] := getD_at hpl
      have hget : getV (p :: ps) v = getV ps v.parts[(placeOf v p).toNat] := by rw [getV_cons, if_pos hin, hgd]
      have hch : chV fV (p :: ps) v = v.withParts (v.parts.set (placeOf v p).toNat (chV fV ps v.parts[(placeOf v p).toNat])) := by rw [chV, if_pos hin, hgd]; rfl
      have hxo : okV v.parts[(placeOf v p).toNat] := o9 _ (List.getElem_mem hpl)
      have hxw : v.parts[(placeOf v p).toNat].weight ≤ 1000000 := by have := DVal.weight_part (List.getElem_mem hpl); omega
      rw [hget, hch]
      have c1 := hin.1
      have c2 := hin.2
      clear hget hch hgd hin
      have ih' := fun S' (hs : S.Sub S') => ih .no v.parts[(placeOf v p).toNat] S' hxo hxw (by simp only [List.length_cons] at hl; omega) (Nat.lt_of_lt_of_le hcS hs.next) (hv.sub hs)
      clear ih
      generalize v.parts[(placeOf v p).toNat] = x at *
      generalize getV ps x = r at *
      generalize chV fV ps x = y at *
      (simp (disch := first | decide | omega | (simp only [add_next, set_next, grow_next, leave_next, drop_next, List.length_map]; first | done | omega)) only [go_sem, ↓reduceIte, Nat.reduceBEq, Nat.reduceAdd, Nat.reduceLeDiff, Nat.reduceEqDiff, Nat.reduceLT, Nat.reduceMul, partV, e1]; (repeat (with_reducible refine And.intro (by first | omega | assumption | rfl) ?_)))
      refine ddraw_cut (fun f' T => ∃ n0 Tv, f' 3 = .loc S.next 0 ∧ f' 6 = .loc (S.next + 1) 0 ∧ f' 8 = .v (.int .i64 (placeOf v p)) ∧ f' 9 = .v (.bool r.isSome) ∧ f' 10 = .loc n0 0 ∧
        T.ob S.next = some (.box 28 (encV v).cells) ∧ T.ob (S.next + 1) = some (.box 28 [.v (.int .i64 0), .v (.int .i64 0), .v (.string ⟨#[]⟩), .sl .full [], .sl .full [], .sl .full []]) ∧ T.ob n0 = some (.box 28 (encV y).cells) ∧ S.next + 2 ≤ n0 ∧ n0 < T.next ∧ T.WF ∧
        Fz (· ≠ c) S T ∧ (r = none → Fz (· = c) S T) ∧ Tv.WF ∧ S.next + 2 ≤ Tv.next ∧ (∀ u, r = some u → ∃ n, S.next + 2 ≤ n ∧ Post u n Tv ∧ (n0 < n ∨ Tv.next ≤ n0) ∧ Fz (fun j => j = c ∨ n ≤ j) Tv T)) ?_ ?_
      · have hS2 := (hS.add (.box 28 (encV v).cells)).add (.box 28 [.v (.int .i64 0), .v (.int .i64 0), .v (.string ⟨#[]⟩), .sl .full [], .sl .full [], .sl .full []])
        refine ddraw_any (fun S' => S'.ob S.next = some (.box 28 (encV v).cells)) 15 (by (first | (simp (disch := first | decide | omega | (simp only [add_next, set_next, grow_next, leave_next, drop_next, List.length_map]; first | done | omega)) only [go_sem, ↓reduceIte, Nat.reduceBEq, Nat.reduceAdd, Nat.reduceLeDiff, Nat.reduceEqDiff, Nat.reduceLT, Nat.reduceMul]; first | done | rfl) | rfl)) (by kernel_rfl) ?_
        (refine s_take 0 rfl (by kernel_rfl) (by kernel_rfl) (v := .loc S.next 5) (fun S' hz => dquietR_of (by (simp (disch := first | decide | omega | (simp only [add_next, set_next, grow_next, leave_next, drop_next, List.length_map]; first | done | omega)) only [go_sem, ↓reduceIte, Nat.reduceBEq, Nat.reduceAdd, Nat.reduceLeDiff, Nat.reduceEqDiff, Nat.reduceLT, Nat.reduceMul]; (repeat (with_reducible refine And.intro (by first | omega | assumption | rfl) ?_))); first | done | rfl | omega)) ?_)
        (refine s_take 1 rfl (by kernel_rfl) (by kernel_rfl) (v := .sl .no (v.parts.map encV)) (fun S' hz => dquietR_of (by (simp (disch := first | decide | omega | (simp only [add_next, set_next, grow_next, leave_next, drop_next, List.length_map]; first | done | omega)) only [go_sem, ↓reduceIte, Nat.reduceBEq, Nat.reduceAdd, Nat.reduceLeDiff, Nat.reduceEqDiff, Nat.reduceLT, Nat.reduceMul, hz, cv]; (repeat (with_reducible refine And.intro (by first | omega | assumption | rfl) ?_))); first | done | rfl | omega)) ?_)
        (refine s_take 2 rfl (by kernel_rfl) (by kernel_rfl) (v := .v (.int .i64 (placeOf v p))) (fun S' hz => dquietR_of (by (simp (disch := first | decide | omega | (simp only [add_next, set_next, grow_next, leave_next, drop_next, List.length_map]; first | done | omega)) only [go_sem, ↓reduceIte, Nat.reduceBEq, Nat.reduceAdd, Nat.reduceLeDiff, Nat.reduceEqDiff, Nat.reduceLT, Nat.reduceMul]; (repeat (with_reducible refine And.intro (by first | omega | assumption | rfl) ?_))); first | done | rfl | omega)) ?_)
        (refine s_take 3 rfl (by kernel_rfl) (by kernel_rfl) (v := .rd (encV x).cells 0) (fun S' hz => dquietR_of (by (simp (disch := first | decide | omega | (simp only [add_next, set_next, grow_next, leave_next, drop_next, List.length_map]; first | done | omega)) only [go_sem, ↓reduceIte, Nat.reduceBEq, Nat.reduceAdd, Nat.reduceLeDiff, Nat.reduceEqDiff, Nat.reduceLT, Nat.reduceMul, hx, c1, c2]; (repeat (with_reducible refine And.intro (by first | omega | assumption | rfl) ?_))); first | done | rfl | omega)) ?_)
        (refine s_take 4 rfl (by kernel_rfl) (by kernel_rfl) (v := encV x) (fun S' hz => dquietR_of (by (simp (disch := first | decide | omega | (simp only [add_next, set_next, grow_next, leave_next, drop_next, List.length_map]; first | done | omega)) only [go_sem, ↓reduceIte, Nat.reduceBEq, Nat.reduceAdd, Nat.reduceLeDiff, Nat.reduceEqDiff, Nat.reduceLT, Nat.reduceMul]; (repeat (with_reducible refine And.intro (by first | omega | assumption | rfl) ?_))); first | done | rfl | omega)) ?_)
        (refine s_take 5 rfl (by kernel_rfl) (by kernel_rfl) (v := .sl own ((p :: ps).map encP)) (fun S' hz => dquietR_of (by (simp (disch := first | decide | omega | (simp only [add_next, set_next, grow_next, leave_next, drop_next, List.length_map]; first | done | omega)) only [go_sem, ↓reduceIte, Nat.reduceBEq, Nat.reduceAdd, Nat.reduceLeDiff, Nat.reduceEqDiff, Nat.reduceLT, Nat.reduceMul]; (repeat (with_reducible refine And.intro (by first | omega | assumption | rfl) ?_))); first | done | rfl | omega)) ?_)
        (refine s_take 6 rfl (by kernel_rfl) (by kernel_rfl) (v := .sl .no (ps.map encP)) (fun S' hz => dquietR_of (by (simp (disch := first | decide | omega | (simp only [add_next, set_next, grow_next, leave_next, drop_next, List.length_map]; first | done | omega)) only [go_sem, ↓reduceIte, Nat.reduceBEq, Nat.reduceAdd, Nat.reduceLeDiff, Nat.reduceEqDiff, Nat.reduceLT, Nat.reduceMul, Nat.reduceSub, List.drop_one, List.tail_cons]; (repeat (with_reducible refine And.intro (by first | omega | assumption | rfl) ?_))); first | done | rfl | omega)) ?_)
        (refine s_take 7 rfl (by kernel_rfl) (by kernel_rfl) (v := .fn (.func g) fs cs) (fun S' hz => dquietR_of (by (simp (disch := first | decide | omega | (simp only [add_next, set_next, grow_next, leave_next, drop_next, List.length_map]; first | done | omega)) only [go_sem, ↓reduceIte, Nat.reduceBEq, Nat.reduceAdd, Nat.reduceLeDiff, Nat.reduceEqDiff, Nat.reduceLT, Nat.reduceMul]; (repeat (with_reducible refine And.intro (by first | omega | assumption | rfl) ?_))); first | done | rfl | omega)) ?_)
        refine s_split [8, 12] (by kernel_rfl) (by simp) ?_
        intro i hi
        simp only [List.mem_cons, List.not_mem_nil, or_false] at hi
        rcases hi with rfl | rfl
        · refine s_op rfl ?_
          (simp (disch := first | decide | omega | (simp only [add_next, set_next, grow_next, leave_next, drop_next, List.length_map]; first | done | omega)) only [go_sem, ↓reduceIte, Nat.reduceBEq, Nat.reduceAdd, Nat.reduceLeDiff, Nat.reduceEqDiff, Nat.reduceLT, Nat.reduceMul]; (repeat (with_reducible refine And.intro (by first | omega | assumption | rfl) ?_)))
          refine (ih' _ (by (repeat' first | assumption | exact St.Sub.refl _ | exact RowOk.sub (by assumption) (by assumption) | refine St.Sub.trans ?_ (RowOk.sub (by assumption) (by assumption)) | refine St.Sub.add ?_ ?_ _ | refine St.Sub.set ?_ ?_ ?_ _ | refine St.Sub.keep ?_ ?_ | refine St.WF.leave ?_ _ | refine St.WF.add ?_ _ | refine St.WF.set ?_ ?_ _ | refine St.WF.grow ?_ _ _ _ | refine St.WF.keep ?_ ?_ | (first | omega | (simp only [RowOk.lo, add_next, set_next, grow_next, leave_next, drop_next]; first | done | omega))))).mono ?_
          rintro d T ⟨rfl, hA, hT⟩
          have hn := hA.fr.next
          simp only [add_next] at hn
          have u2 := hA.fr.ob S.next _ (by omega) (by (first | (simp (disch := first | decide | omega | (simp only [add_next, set_next, grow_next, leave_next, drop_next, List.length_map]; first | done | omega)) only [go_sem, ↓reduceIte, Nat.reduceBEq, Nat.reduceAdd, Nat.reduceLeDiff, Nat.reduceEqDiff, Nat.reduceLT, Nat.reduceMul]; first | done | rfl) | rfl))
          have u3 := hA.fr.ob (S.next + 1) _ (by omega) (by (first | (simp (disch := first | decide | omega | (simp only [add_next, set_next, grow_next, leave_next, drop_next, List.length_map]; first | done | omega)) only [go_sem, ↓reduceIte, Nat.reduceBEq, Nat.reduceAdd, Nat.reduceLeDiff, Nat.reduceEqDiff, Nat.reduceLT, Nat.reduceMul]; first | done | rfl) | rfl))
          refine ⟨u2, ?_⟩
          (refine s_take 9 rfl (by kernel_rfl) (by kernel_rfl) (v := .tup [encV y, .v (.bool r.isSome)]) (fun S' hz => dquietR_of (by (simp (disch := first | decide | omega | (simp only [add_next, set_next, grow_next, leave_next, drop_next, List.length_map]; first | done | omega)) only [go_sem, ↓reduceIte, Nat.reduceBEq, Nat.reduceAdd, Nat.reduceLeDiff, Nat.reduceEqDiff, Nat.reduceLT, Nat.reduceMul]; (repeat (with_reducible refine And.intro (by first | omega | assumption | rfl) ?_))); first | done | rfl | omega)) ?_)
          (refine s_take 10 rfl (by kernel_rfl) (by kernel_rfl) (v := encV y) (fun S' hz => dquietR_of (by (simp (disch := first | decide | omega | (simp only [add_next, set_next, grow_next, leave_next, drop_next, List.length_map]; first | done | omega)) only [go_sem, ↓reduceIte, Nat.reduceBEq, Nat.reduceAdd, Nat.reduceLeDiff, Nat.reduceEqDiff, Nat.reduceLT, Nat.reduceMul]; (repeat (with_reducible refine And.intro (by first | omega | assumption | rfl) ?_))); first | done | rfl | omega)) ?_)
          (refine s_take 11 rfl (by kernel_rfl) (by kernel_rfl) (v := .v (.bool r.isSome)) (fun S' hz => dquietR_of (by (simp (disch := first | decide | omega | (simp only [add_next, set_next, grow_next, leave_next, drop_next, List.length_map]; first | done | omega)) only [go_sem, ↓reduceIte, Nat.reduceBEq, Nat.reduceAdd, Nat.reduceLeDiff, Nat.reduceEqDiff, Nat.reduceLT, Nat.reduceMul]; (repeat (with_reducible refine And.intro (by first | omega | assumption | rfl) ?_))); first | done | rfl | omega)) ?_)
          refine s_split [12] (by kernel_rfl) (by simp) ?_
          intro i hi
          obtain rfl : i = 12 := by simpa using hi
          refine s_op rfl ?_
          have e2 : S.next ≠ T.next := by omega
          have e3 : S.next + 1 ≠ T.next := by omega
          (simp (disch := first | decide | omega | (simp only [add_next, set_next, grow_next, leave_next, drop_next, List.length_map]; first | done | omega)) only [go_sem, ↓reduceIte, Nat.reduceBEq, Nat.reduceAdd, Nat.reduceLeDiff, Nat.reduceEqDiff, Nat.reduceLT, Nat.reduceMul, u2, u3, e2, e3]; (repeat (with_reducible refine And.intro (by first | omega | assumption | rfl) ?_)))
          refine s_split [13] (by kernel_rfl) (by simp) ?_
          intro i hi
          obtain rfl : i = 13 := by simpa using hi
          refine s_op rfl ?_
          (simp (disch := first | decide | omega | (simp only [add_next, set_next, grow_next, leave_next, drop_next, List.length_map]; first | done | omega)) only [go_sem, ↓reduceIte, Nat.reduceBEq, Nat.reduceAdd, Nat.reduceLeDiff, Nat.reduceEqDiff, Nat.reduceLT, Nat.reduceMul, u2, u3, e2, e3]; (repeat (with_reducible refine And.intro (by first | omega | assumption | rfl) ?_)))
          (refine s_take 14 rfl (by kernel_rfl) (by kernel_rfl) (v := .v (.bool r.isSome)) (fun S' hz => dquietR_of (by (simp (disch := first | decide | omega | (simp only [add_next, set_next, grow_next, leave_next, drop_next, List.length_map]; first | done | omega)) only [go_sem, ↓reduceIte, Nat.reduceBEq, Nat.reduceAdd, Nat.reduceLeDiff, Nat.reduceEqDiff, Nat.reduceLT, Nat.reduceMul]; (repeat (with_reducible refine And.intro (by first | omega | assumption | rfl) ?_))); first | done | rfl | omega)) ?_)
          refine s_done (by kernel_rfl) ?_
          (simp (disch := first | decide | omega | (simp only [add_next, set_next, grow_next, leave_next, drop_next, List.length_map]; first | done | omega)) only [go_sem, ↓reduceIte, Nat.reduceBEq, Nat.reduceAdd, Nat.reduceLeDiff, Nat.reduceEqDiff, Nat.reduceLT, Nat.reduceMul, u2, u3, e2, e3]; (repeat (with_reducible refine And.intro (by first | omega | assumption | rfl) ?_)))
          refine ⟨T.next, T, rfl, by (first | (simp (disch := first | decide | omega | (simp only [add_next, set_next, grow_next, leave_next, drop_next, List.length_map]; first | done | omega)) only [go_sem, ↓reduceIte, Nat.reduceBEq, Nat.reduceAdd, Nat.reduceLeDiff, Nat.reduceEqDiff, Nat.reduceLT, Nat.reduceMul]; first | done | rfl) | rfl), by omega, by omega, (hT.add _).set (by show T.next < T.next + 1; omega) _, ?_, fun hr => ?_, hT, by omega, fun u hu => ?_⟩
          · exact (((((Fz.refl _ S).add hS).add hS).trans hA.fr).add hS).set hS (.inr (by omega))
          · exact (((((Fz.refl _ S).add hS).add hS).trans (hA.cob hr)).add hS).set hS (.inr (by omega))
          · obtain ⟨n, hn1, hn2⟩ := hA.post u hu
            simp only [add_next] at hn1
            exact ⟨n, by omega, hn2, .inr (Nat.le_refl _), ((Fz.refl _ T).add hT).set hT (.inr (Nat.le_refl _))⟩
        · refine s_op rfl ?_
          (simp (disch := first | decide | omega | (simp only [add_next, set_next, grow_next, leave_next, drop_next, List.length_map]; first | done | omega)) only [go_sem, ↓reduceIte, Nat.reduceBEq, Nat.reduceAdd, Nat.reduceLeDiff, Nat.reduceEqDiff, Nat.reduceLT, Nat.reduceMul]; (repeat (with_reducible refine And.intro (by first | omega | assumption | rfl) ?_)))
          refine s_split [8] (by kernel_rfl) (by simp) ?_
          intro i hi
          obtain rfl : i = 8 := by simpa using hi
          refine s_op rfl ?_
          (simp (disch := first | decide | omega | (simp only [add_next, set_next, grow_next, leave_next, drop_next, List.length_map]; first | done | omega)) only [go_sem, ↓reduceIte, Nat.reduceBEq, Nat.reduceAdd, Nat.reduceLeDiff, Nat.reduceEqDiff, Nat.reduceLT, Nat.reduceMul]; (repeat (with_reducible refine And.intro (by first | omega | assumption | rfl) ?_)))
          refine (ih' _ (by (repeat' first | assumption | exact St.Sub.refl _ | exact RowOk.sub (by assumption) (by assumption) | refine St.Sub.trans ?_ (RowOk.sub (by assumption) (by assumption)) | refine St.Sub.add ?_ ?_ _ | refine St.Sub.set ?_ ?_ ?_ _ | refine St.Sub.keep ?_ ?_ | refine St.WF.leave ?_ _ | refine St.WF.add ?_ _ | refine St.WF.set ?_ ?_ _ | refine St.WF.grow ?_ _ _ _ | refine St.WF.keep ?_ ?_ | (first | omega | (simp only [RowOk.lo, add_next, set_next, grow_next, leave_next, drop_next]; first | done | omega))))).mono ?_
          rintro d T ⟨rfl, hA, hT⟩
          have hn := hA.fr.next
          simp only [add_next] at hn
          have u2 := hA.fr.ob S.next _ (by omega) (by (first | (simp (disch := first | decide | omega | (simp only [add_next, set_next, grow_next, leave_next, drop_next, List.length_map]; first | done | omega)) only [go_sem, ↓reduceIte, Nat.reduceBEq, Nat.reduceAdd, Nat.reduceLeDiff, Nat.reduceEqDiff, Nat.reduceLT, Nat.reduceMul]; first | done | rfl) | rfl))
          have u3 := hA.fr.ob (S.next + 1) _ (by omega) (by (first | (simp (disch := first | decide | omega | (simp only [add_next, set_next, grow_next, leave_next, drop_next, List.length_map]; first | done | omega)) only [go_sem, ↓reduceIte, Nat.reduceBEq, Nat.reduceAdd, Nat.reduceLeDiff, Nat.reduceEqDiff, Nat.reduceLT, Nat.reduceMul]; first | done | rfl) | rfl))
          have u4 := hA.fr.ob (S.next + 1 + 1) _ (by omega) (by (first | (simp (disch := first | decide | omega | (simp only [add_next, set_next, grow_next, leave_next, drop_next, List.length_map]; first | done | omega)) only [go_sem, ↓reduceIte, Nat.reduceBEq, Nat.reduceAdd, Nat.reduceLeDiff, Nat.reduceEqDiff, Nat.reduceLT, Nat.reduceMul]; first | done | rfl) | rfl))
          refine ⟨u2, ?_⟩
          (refine s_take 9 rfl (by kernel_rfl) (by kernel_rfl) (v := .tup [encV y, .v (.bool r.isSome)]) (fun S' hz => dquietR_of (by (simp (disch := first | decide | omega | (simp only [add_next, set_next, grow_next, leave_next, drop_next, List.length_map]; first | done | omega)) only [go_sem, ↓reduceIte, Nat.reduceBEq, Nat.reduceAdd, Nat.reduceLeDiff, Nat.reduceEqDiff, Nat.reduceLT, Nat.reduceMul]; (repeat (with_reducible refine And.intro (by first | omega | assumption | rfl) ?_))); first | done | rfl | omega)) ?_)
          (refine s_take 10 rfl (by kernel_rfl) (by kernel_rfl) (v := encV y) (fun S' hz => dquietR_of (by (simp (disch := first | decide | omega | (simp only [add_next, set_next, grow_next, leave_next, drop_next, List.length_map]; first | done | omega)) only [go_sem, ↓reduceIte, Nat.reduceBEq, Nat.reduceAdd, Nat.reduceLeDiff, Nat.reduceEqDiff, Nat.reduceLT, Nat.reduceMul]; (repeat (with_reducible refine And.intro (by first | omega | assumption | rfl) ?_))); first | done | rfl | omega)) ?_)
          (refine s_take 11 rfl (by kernel_rfl) (by kernel_rfl) (v := .v (.bool r.isSome)) (fun S' hz => dquietR_of (by (simp (disch := first | decide | omega | (simp only [add_next, set_next, grow_next, leave_next, drop_next, List.length_map]; first | done | omega)) only [go_sem, ↓reduceIte, Nat.reduceBEq, Nat.reduceAdd, Nat.reduceLeDiff, Nat.reduceEqDiff, Nat.reduceLT, Nat.reduceMul]; (repeat (with_reducible refine And.intro (by first | omega | assumption | rfl) ?_))); first | done | rfl | omega)) ?_)
          refine s_split [13] (by kernel_rfl) (by simp) ?_
          intro i hi
          obtain rfl : i = 13 := by simpa using hi
          refine s_op rfl ?_
          (simp (disch := first | decide | omega | (simp only [add_next, set_next, grow_next, leave_next, drop_next, List.length_map]; first | done | omega)) only [go_sem, ↓reduceIte, Nat.reduceBEq, Nat.reduceAdd, Nat.reduceLeDiff, Nat.reduceEqDiff, Nat.reduceLT, Nat.reduceMul, u2, u3, u4]; (repeat (with_reducible refine And.intro (by first | omega | assumption | rfl) ?_)))
          (refine s_take 14 rfl (by kernel_rfl) (by kernel_rfl) (v := .v (.bool r.isSome)) (fun S' hz => dquietR_of (by (simp (disch := first | decide | omega | (simp only [add_next, set_next, grow_next, leave_next, drop_next, List.length_map]; first | done | omega)) only [go_sem, ↓reduceIte, Nat.reduceBEq, Nat.reduceAdd, Nat.reduceLeDiff, Nat.reduceEqDiff, Nat.reduceLT, Nat.reduceMul]; (repeat (with_reducible refine And.intro (by first | omega | assumption | rfl) ?_))); first | done | rfl | omega)) ?_)
          refine s_done (by kernel_rfl) ?_
          (simp (disch := first | decide | omega | (simp only [add_next, set_next, grow_next, leave_next, drop_next, List.length_map]; first | done | omega)) only [go_sem, ↓reduceIte, Nat.reduceBEq, Nat.reduceAdd, Nat.reduceLeDiff, Nat.reduceEqDiff, Nat.reduceLT, Nat.reduceMul, u2, u3, u4]; (repeat (with_reducible refine And.intro (by first | omega | assumption | rfl) ?_)))
          refine ⟨S.next + 1 + 1, T, rfl, by (first | (simp (disch := first | decide | omega | (simp only [add_next, set_next, grow_next, leave_next, drop_next, List.length_map]; first | done | omega)) only [go_sem, ↓reduceIte, Nat.reduceBEq, Nat.reduceAdd, Nat.reduceLeDiff, Nat.reduceEqDiff, Nat.reduceLT, Nat.reduceMul]; first | done | rfl) | rfl), by omega, by omega, hT.set (by omega) _, ?_, fun hr => ?_, hT, by omega, fun u hu => ?_⟩
          · exact (((((Fz.refl _ S).add hS).add hS).add hS).trans hA.fr).set hS (.inr (by omega))
          · exact (((((Fz.refl _ S).add hS).add hS).add hS).trans (hA.cob hr)).set hS (.inr (by omega))
          · obtain ⟨n, hn1, hn2⟩ := hA.post u hu
            simp only [add_next] at hn1
            exact ⟨n, by omega, hn2, .inl (by omega), (Fz.refl _ T).set hT (.inl (by omega))⟩
      · rintro f' T ⟨n0, Tv, q3, q6, q8, q9, q10, t0, t1, t2, n1, n2, hT, hF, hFc, hTv, hnv, hpo⟩
        (simp (disch := first | decide | omega | (simp only [add_next, set_next, grow_next, leave_next, drop_next, List.length_map]; first | done | omega)) only [go_sem, ↓reduceIte, Nat.reduceBEq, Nat.reduceAdd, Nat.reduceLeDiff, Nat.reduceEqDiff, Nat.reduceLT, Nat.reduceMul, q3, q6, q8, q9, q10, t0, t1, t2, cv]; (repeat (with_reducible refine And.intro (by first | omega | assumption | rfl) ?_)))
        have hpos : 0 < v.parts.length := by omega
        have hpl0 := partsLen v
        have hwe := v.weight_eq
        refine dapp_win rfl ⟨rfl, rfl, by simpa using hpos, rfl, by (first | (simp (disch := first | decide | omega | (simp only [add_next, set_next, grow_next, leave_next, drop_next, List.length_map]; first | done | omega)) only [go_sem, ↓reduceIte, Nat.reduceBEq, Nat.reduceAdd, Nat.reduceLeDiff, Nat.reduceEqDiff, Nat.reduceLT, Nat.reduceMul]; first | done | rfl) | rfl), by (first | (simp (disch := first | decide | omega | (simp only [add_next, set_next, grow_next, leave_next, drop_next, List.length_map]; first | done | omega)) only [go_sem, ↓reduceIte, Nat.reduceBEq, Nat.reduceAdd, Nat.reduceLeDiff, Nat.reduceEqDiff, Nat.reduceLT, Nat.reduceMul]; first | done | rfl) | rfl), (fun d hd => by obtain ⟨u, _, rfl⟩ := List.mem_map.1 hd; exact cells_encV u), by rw [List.length_map]; omega, by simp (disch := first | decide | omega | (simp only [add_next, set_next, grow_next, leave_next, drop_next, List.length_map]; first | done | omega)) only [go_sem, ↓reduceIte, Nat.reduceBEq, Nat.reduceAdd, Nat.reduceLeDiff, Nat.reduceEqDiff, Nat.reduceLT, Nat.reduceMul]; omega, fun cw zs _ _ => ?_⟩
        (simp (disch := first | decide | omega | (simp only [add_next, set_next, grow_next, leave_next, drop_next, List.length_map]; first | done | omega)) only [go_sem, ↓reduceIte, Nat.reduceBEq, Nat.reduceAdd, Nat.reduceLeDiff, Nat.reduceEqDiff, Nat.reduceLT, Nat.reduceMul, q3, q6, q8, q9, q10, t0, t1, t2, cv]; (repeat (with_reducible refine And.intro (by first | omega | assumption | rfl) ?_)))
        have hwid : ∀ d ∈ List.map encV v.parts, d.width = 6 := fun d hd => by obtain ⟨u, _, rfl⟩ := List.mem_map.1 hd; exact cells_encV u
        have hlen : (placeOf v p).toNat < (List.map encV v.parts).length := by rw [List.length_map]; omega
        refine ⟨by rw [List.length_append, dflat_length hwid]; simp; omega, ?_⟩
        rw [splice_flat' hlen hwid (cells_encV y)]
        have hwid2 : ∀ d ∈ (List.map encV v.parts).set (placeOf v p).toNat (encV y), d.width = szOf Try.prog 28 := fun d hd => by
          simp (disch := first | decide | omega | (simp only [add_next, set_next, grow_next, leave_next, drop_next, List.length_map]; first | done | omega)) only [go_sem, ↓reduceIte, Nat.reduceBEq, Nat.reduceAdd, Nat.reduceLeDiff, Nat.reduceEqDiff, Nat.reduceLT, Nat.reduceMul]
          rcases List.mem_or_eq_of_mem_set hd with hd | rfl
          · exact hwid d hd
          · exact cells_encV y
        refine ⟨_, _, thaw_win (k := T.next) (zs := zs) (by (first | (simp (disch := first | decide | omega | (simp only [add_next, set_next, grow_next, leave_next, drop_next, List.length_map]; first | done | omega)) only [go_sem, ↓reduceIte, Nat.reduceBEq, Nat.reduceAdd, Nat.reduceLeDiff, Nat.reduceEqDiff, Nat.reduceLT, Nat.reduceMul]; first | done | rfl) | rfl)) (by simp (disch := first | decide | omega | (simp only [add_next, set_next, grow_next, leave_next, drop_next, List.length_map]; first | done | omega)) only [go_sem, ↓reduceIte, Nat.reduceBEq, Nat.reduceAdd, Nat.reduceLeDiff, Nat.reduceEqDiff, Nat.reduceLT, Nat.reduceMul]) hwid2 rfl, ?_⟩
        have hTn := hF.next
        refine ⟨?_, ⟨?_, fun hr => ?_, fun u hu => ?_⟩, ?_⟩
        · simp only [D.thaw, thawL, List.length_set, List.length_map, Nat.beq_refl, Bool.and_self, cond_true]
          rw [encV_eq (v.withParts _), ← List.map_set]
          rfl
        · exact ((((hF.add hS).set hS (.inr (Nat.le_refl _))).set hS (.inr (by omega))).set hS (.inr (by omega))).drop hS (.inr (by omega))
        · exact (((((hFc hr).add hS).set hS (.inr (Nat.le_refl _))).set hS (.inr (by omega))).set hS (.inr (by omega))).drop hS (.inr (by omega))
        · obtain ⟨n, hn1, hn2, hn3, hn4⟩ := hpo u hu
          have hvn := hn4.next
          refine ⟨n, by omega, hP _ _ _ _ hn2 ?_⟩
          exact ((((hn4.add hTv).set hTv (.inl (by omega))).set hTv (.inr (by omega))).set hTv (.inl (by omega))).drop hTv (.inr (by omega))
        · exact ((((hT.add _).set (by show S.next < T.next + 1; omega) _).set (by show T.next < T.next + 1; omega) _).set (by show S.next + 1 < T.next + 1; omega) _).drop _
    · have e1 : (decide (0 ≤ placeOf v p) && decide (placeOf v p < (v.parts.length : Int))) = false := by
        cases h : (decide (0 ≤ placeOf v p) && decide (placeOf v p < (v.parts.length : Int))) with
        | false => rfl
        | true => rw [Bool.and_eq_true, decide_eq_true_eq, decide_eq_true_eq] at h; exact absurd h hin
      have hg : getV (p :: ps) v = none := by rw [getV_cons, if_neg hin]
      have hc : chV fV (p :: ps) v = v := by rw [chV, if_neg hin]
      (simp (disch := first | decide | omega | (simp only [add_next, set_next, grow_next, leave_next, drop_next, List.length_map]; first | done | omega)) only [go_sem, ↓reduceIte, Nat.reduceBEq, Nat.reduceAdd, Nat.reduceLeDiff, Nat.reduceEqDiff, Nat.reduceLT, Nat.reduceMul, partV, e1]; (repeat (with_reducible refine And.intro (by first | omega | assumption | rfl) ?_)))
      rw [hg, hc]
      refine ⟨_, _, Thaw.refl _ _ _, rfl, ⟨?_, fun hr => ?_, fun u hu => (by cases hu)⟩, ?_⟩
      · exact (((Fz.refl _ S).add hS).add hS).set hS (.inr (by omega))
      · exact (((Fz.refl _ S).add hS).add hS).set hS (.inr (by omega))
      · exact (by (repeat' first | assumption | refine St.WF.leave ?_ _ | refine St.WF.add ?_ _ | refine St.WF.set ?_ ?_ _ | refine St.WF.grow ?_ _ _ _ | refine St.WF.keep ?_ ?_ | (first | omega | (simp only [RowOk.lo, add_next, set_next, grow_next, leave_next, drop_next]; first | done | omega))))
end Go.Proofs.Ytjjhjhjphhpeiaa

namespace Go.Proofs.Ytjjhjhjphhpeiaa
open Go.RowKit
set_option linter.unusedSimpArgs false
set_option linter.unusedVariables false
theorem okCell_ownV (v : DVal) (a b c ca cb cc : Nat) : (ownV v a b c ca cb cc).okCell = true := Eq.trans (Eq.refl _) (Eq.refl _)
theorem len_ownV (v : DVal) (a b c ca cb cc : Nat) : (ownV v a b c ca cb cc).cells.length = 6 := Eq.trans (Eq.refl _) (Eq.refl _)
theorem take_ownV (v : DVal) (a b c ca cb cc : Nat) : (ownV v a b c ca cb cc).cells.take 6 = (ownV v a b c ca cb cc).cells := Eq.trans (Eq.refl _) (Eq.refl _)
theorem agg_ownV (v : DVal) (a b c ca cb cc : Nat) : D.agg (ownV v a b c ca cb cc).cells = ownV v a b c ca cb cc := Eq.trans (Eq.refl _) (Eq.refl _)
theorem drop_ownV (v : DVal) (a b c ca cb cc : Nat) : (ownV v a b c ca cb cc).cells.drop 6 = [] := Eq.trans (Eq.refl _) (Eq.refl _)
attribute [go_sem] drop_ownV List.append_nil
attribute [go_sem] okCell_ownV len_ownV take_ownV agg_ownV
theorem gdO0 (v : DVal) (a b c ca cb cc : Nat) : (ownV v a b c ca cb cc).cells.getD 0 undefD = .v (.int .i64 v.kind) := Eq.trans (Eq.refl _) (Eq.refl _)
theorem gdO3 (v : DVal) (a b c ca cb cc : Nat) : (ownV v a b c ca cb cc).cells.getD 3 undefD = .win a 0 v.names.length ca := Eq.trans (Eq.refl _) (Eq.refl _)
theorem gdO4 (v : DVal) (a b c ca cb cc : Nat) : (ownV v a b c ca cb cc).cells.getD 4 undefD = .win b 0 v.ids.length cb := Eq.trans (Eq.refl _) (Eq.refl _)
theorem gdO5 (v : DVal) (a b c ca cb cc : Nat) : (ownV v a b c ca cb cc).cells.getD 5 undefD = .win c 0 v.parts.length cc := Eq.trans (Eq.refl _) (Eq.refl _)
attribute [go_sem] gdO0 gdO3 gdO4 gdO5
/-- In T the variable c holds a value of its own, all of whose names are from n on. -/
def OwnAtV (c : Nat) (u : DVal) (n : Nat) (T : St) : Prop := ∃ i j k ci cj ck zi zj zk, T.ob c = some (.box 28 (ownV u i j k ci cj ck).cells) ∧ n ≤ i ∧ n ≤ j ∧ n ≤ k ∧ OV T u i j k ci cj ck zi zj zk
theorem ownAtV_mono (c : Nat) : Mono c (OwnAtV c) := fun u n T T' h hz => by
  obtain ⟨i, j, k, ci, cj, ck, zi, zj, zk, h1, h2, h3, h4, h5⟩ := h
  exact ⟨i, j, k, ci, cj, ck, zi, zj, zk, hz.ob _ _ (.inl rfl) h1, h2, h3, h4, ⟨hz.ob _ _ (.inr h2) h5.obn, h5.ln, hz.ob _ _ (.inr h3) h5.obi, h5.li, hz.ob _ _ (.inr h4) h5.obp, h5.lp, h5.ab, h5.ac, h5.bc⟩⟩
set_option maxRecDepth 200000 in
set_option maxHeartbeats 4000000 in
theorem get1_o (S : St) (c : Nat) (cs : List D) (hc : S.ob c = some (.box 28 cs)) (hl : cs.length = 6) (u : DVal) (hw : u.weight ≤ 1000000) :
    DCalls Try.prog 67 [encV u, .loc c 0] S (fun d T => d = encV u ∧ Aft c (OwnAtV c) (some u) S T ∧ T.WF) := by
  refine dcalls_inline mixed Try.func67 rfl (fun _ _ => by kernel_rfl) (rs := [.cell 3 28]) rfl (by kernel_rfl) (fun hS => ?_)
  have hlt := hS.lt hc
  have e1 : c ≠ S.next := by omega
  have e2 : c ≠ S.next + 1 := by omega
  have hd : cs.drop 6 = [] := List.drop_of_length_le (by omega)
  (simp (disch := first | decide | omega | (simp only [add_next, set_next, grow_next, leave_next, drop_next, List.length_map]; first | done | omega)) only [go_sem, ↓reduceIte, Nat.reduceBEq, Nat.reduceAdd, Nat.reduceLeDiff, Nat.reduceEqDiff, Nat.reduceLT, Nat.reduceMul]; (repeat (with_reducible refine And.intro (by first | omega | assumption | rfl) ?_)))
  refine copy_o u hw fun T a b k ca cb ck zn zi zp hs hT ha hb hk hO => ?_
  have hsn := hs.next
  simp only [add_next] at hsn ha hb hk
  have u2 := hs.ob S.next _ (by (first | (simp (disch := first | decide | omega | (simp only [add_next, set_next, grow_next, leave_next, drop_next, List.length_map]; first | done | omega)) only [go_sem, ↓reduceIte, Nat.reduceBEq, Nat.reduceAdd, Nat.reduceLeDiff, Nat.reduceEqDiff, Nat.reduceLT, Nat.reduceMul]; first | done | rfl) | rfl))
  have u3 := hs.ob (S.next + 1) _ (by (first | (simp (disch := first | decide | omega | (simp only [add_next, set_next, grow_next, leave_next, drop_next, List.length_map]; first | done | omega)) only [go_sem, ↓reduceIte, Nat.reduceBEq, Nat.reduceAdd, Nat.reduceLeDiff, Nat.reduceEqDiff, Nat.reduceLT, Nat.reduceMul]; first | done | rfl) | rfl))
  have uc := hs.ob c _ (by (first | (simp (disch := first | decide | omega | (simp only [add_next, set_next, grow_next, leave_next, drop_next, List.length_map]; first | done | omega)) only [go_sem, ↓reduceIte, Nat.reduceBEq, Nat.reduceAdd, Nat.reduceLeDiff, Nat.reduceEqDiff, Nat.reduceLT, Nat.reduceMul, hc, e1, e2]; first | done | rfl) | rfl))
  (simp (disch := first | decide | omega | (simp only [add_next, set_next, grow_next, leave_next, drop_next, List.length_map]; first | done | omega)) only [go_sem, ↓reduceIte, Nat.reduceBEq, Nat.reduceAdd, Nat.reduceLeDiff, Nat.reduceEqDiff, Nat.reduceLT, Nat.reduceMul, u2, u3, uc, hl, hd, e1, e2]; (repeat (with_reducible refine And.intro (by first | omega | assumption | rfl) ?_)))
  refine ⟨⟨?_, fun h => (by cases h), fun u' hu => ?_⟩, ?_⟩
  · exact ((((Fz.refl _ S).add hS).add hS).trans (Fz.sub hs)).set hS (.inl (fun h => h rfl)) |>.set hS (.inr (by omega))
  · injection hu with hu
    subst hu
    refine ⟨S.next + 2, by omega, a, b, k, ca, cb, ck, zn, zi, zp, ?_, ha, hb, hk, ⟨?_, hO.ln, ?_, hO.li, ?_, hO.lp, hO.ab, hO.ac, hO.bc⟩⟩
    · (first | (simp (disch := first | decide | omega | (simp only [add_next, set_next, grow_next, leave_next, drop_next, List.length_map]; first | done | omega)) only [go_sem, ↓reduceIte, Nat.reduceBEq, Nat.reduceAdd, Nat.reduceLeDiff, Nat.reduceEqDiff, Nat.reduceLT, Nat.reduceMul, e1, e2]; first | done | rfl) | rfl)
    · have n1 : a ≠ c := by omega
      have n2 : a ≠ S.next + 1 := by omega
      (first | (simp (disch := first | decide | omega | (simp only [add_next, set_next, grow_next, leave_next, drop_next, List.length_map]; first | done | omega)) only [go_sem, ↓reduceIte, Nat.reduceBEq, Nat.reduceAdd, Nat.reduceLeDiff, Nat.reduceEqDiff, Nat.reduceLT, Nat.reduceMul, hO.obn, n1, n2]; first | done | rfl) | rfl)
    · have n1 : b ≠ c := by omega
      have n2 : b ≠ S.next + 1 := by omega
      (first | (simp (disch := first | decide | omega | (simp only [add_next, set_next, grow_next, leave_next, drop_next, List.length_map]; first | done | omega)) only [go_sem, ↓reduceIte, Nat.reduceBEq, Nat.reduceAdd, Nat.reduceLeDiff, Nat.reduceEqDiff, Nat.reduceLT, Nat.reduceMul, hO.obi, n1, n2]; first | done | rfl) | rfl)
    · have n1 : k ≠ c := by omega
      have n2 : k ≠ S.next + 1 := by omega
      (first | (simp (disch := first | decide | omega | (simp only [add_next, set_next, grow_next, leave_next, drop_next, List.length_map]; first | done | omega)) only [go_sem, ↓reduceIte, Nat.reduceBEq, Nat.reduceAdd, Nat.reduceLeDiff, Nat.reduceEqDiff, Nat.reduceLT, Nat.reduceMul, hO.obp, n1, n2]; first | done | rfl) | rfl)
  · exact (hT.set (by omega) _).set (by show S.next + 1 < T.next; omega) _
theorem Fz.full {c : Nat} {S T : St} (h : Fz (· ≠ c) S T) (hS : S.WF) (hc : S.next ≤ c) : Fz (fun _ => True) S T := ⟨h.next, fun j o _ e => h.ob j o (by have := hS.lt e; omega) e⟩
def zCells : List D := [.v (.int .i64 0), .v (.int .i64 0), .v (.string ⟨#[]⟩), .sl .full [], .sl .full [], .sl .full []]
set_option maxRecDepth 200000 in
set_option maxHeartbeats 4000000 in
theorem get_o (v : DVal) (ps : List DStp) (own : Own) (hok : okV v) (hw : v.weight ≤ 1000000) (hl : ps.length ≤ 1000000) {S : St} {K : D → St → Prop}
    (h0 : ∀ T, getV ps v = none → Fz (fun _ => True) S T → T.WF → K (.tup [.agg zCells, .v (.bool false)]) T)
    (h1 : ∀ T u a b c ca cb cc zn zi zp, getV ps v = some u → Fz (fun _ => True) S T → T.WF → S.next ≤ a → S.next ≤ b → S.next ≤ c → OV T u a b c ca cb cc zn zi zp → K (.tup [ownV u a b c ca cb cc, .v (.bool true)]) T) :
    DCalls Try.prog 40 [encV v, .sl own (ps.map encP)] S K := by
  refine dcalls_inline mixed Try.func40 rfl (fun _ _ => by kernel_rfl) (rs := [.cell 4 28, .tmp 5]) rfl (by kernel_rfl) (fun hS => ?_)
  (simp (disch := first | decide | omega | (simp only [add_next, set_next, grow_next, leave_next, drop_next, List.length_map]; first | done | omega)) only [go_sem, ↓reduceIte, Nat.reduceBEq, Nat.reduceAdd, Nat.reduceLeDiff, Nat.reduceEqDiff, Nat.reduceLT, Nat.reduceMul]; (repeat (with_reducible refine And.intro (by first | omega | assumption | rfl) ?_)))
  refine (change_o 67 [] [.loc (S.next + 1 + 1) 0] id (S.next + 1 + 1) (OwnAtV (S.next + 1 + 1)) (ownAtV_mono _) ps own v _ hok hw hl (by show _ < S.next + 1 + 1 + 1; omega) ?_).mono ?_
  · intro S' u hs hS' hu _
    exact get1_o S' _ _ (hs.ob _ _ (by (first | (simp (disch := first | decide | omega | (simp only [add_next, set_next, grow_next, leave_next, drop_next, List.length_map]; first | done | omega)) only [go_sem, ↓reduceIte, Nat.reduceBEq, Nat.reduceAdd, Nat.reduceLeDiff, Nat.reduceEqDiff, Nat.reduceLT, Nat.reduceMul]; first | done | rfl) | rfl))) rfl u hu
  · rintro d T ⟨rfl, hA, hT⟩
    have hn := hA.fr.next
    simp only [add_next] at hn
    have u3 := hA.fr.ob (S.next + 1) _ (by omega) (by (first | (simp (disch := first | decide | omega | (simp only [add_next, set_next, grow_next, leave_next, drop_next, List.length_map]; first | done | omega)) only [go_sem, ↓reduceIte, Nat.reduceBEq, Nat.reduceAdd, Nat.reduceLeDiff, Nat.reduceEqDiff, Nat.reduceLT, Nat.reduceMul]; first | done | rfl) | rfl))
    cases hg : getV ps v with
    | none =>
      rw [hg] at hA
      have u4 := (hA.cob rfl).ob (S.next + 1 + 1) _ rfl (by (first | (simp (disch := first | decide | omega | (simp only [add_next, set_next, grow_next, leave_next, drop_next, List.length_map]; first | done | omega)) only [go_sem, ↓reduceIte, Nat.reduceBEq, Nat.reduceAdd, Nat.reduceLeDiff, Nat.reduceEqDiff, Nat.reduceLT, Nat.reduceMul]; first | done | rfl) | rfl))
      have e3 : S.next + 1 ≠ T.next := by omega
      have e4 : S.next + 1 + 1 ≠ T.next := by omega
      (simp (disch := first | decide | omega | (simp only [add_next, set_next, grow_next, leave_next, drop_next, List.length_map]; first | done | omega)) only [go_sem, ↓reduceIte, Nat.reduceBEq, Nat.reduceAdd, Nat.reduceLeDiff, Nat.reduceEqDiff, Nat.reduceLT, Nat.reduceMul, u3, u4, e3, e4, Option.isSome_none]; (repeat (with_reducible refine And.intro (by first | omega | assumption | rfl) ?_)))
      refine h0 _ hg ?_ (((hT.add _).set (by show T.next < T.next + 1; omega) _).set (by show S.next + 1 < T.next + 1; omega) _)
      exact (((((((Fz.refl _ S).add hS).add hS).add hS).trans hA.fr).full hS (by omega)).add hS).set hS (.inr (by omega)) |>.set hS (.inr (by omega))
    | some u =>
      rw [hg] at hA
      obtain ⟨n, hn1, i, j, k, ci, cj, ck, zi, zj, zk, o1, o2, o3, o4, hO⟩ := hA.post u rfl
      simp only [add_next] at hn1
      have e3 : S.next + 1 ≠ T.next := by omega
      have e4 : S.next + 1 + 1 ≠ T.next := by omega
      (simp (disch := first | decide | omega | (simp only [add_next, set_next, grow_next, leave_next, drop_next, List.length_map]; first | done | omega)) only [go_sem, ↓reduceIte, Nat.reduceBEq, Nat.reduceAdd, Nat.reduceLeDiff, Nat.reduceEqDiff, Nat.reduceLT, Nat.reduceMul, u3, o1, e3, e4, Option.isSome_some]; (repeat (with_reducible refine And.intro (by first | omega | assumption | rfl) ?_)))
      have l1 := hT.lt hO.obn
      have l2 := hT.lt hO.obi
      have l3 := hT.lt hO.obp
      refine h1 _ u i j k ci cj ck zi zj zk hg ?_ (((hT.add _).set (by show T.next < T.next + 1; omega) _).set (by show S.next + 1 < T.next + 1; omega) _) (by omega) (by omega) (by omega) ⟨?_, hO.ln, ?_, hO.li, ?_, hO.lp, hO.ab, hO.ac, hO.bc⟩
      · exact (((((((Fz.refl _ S).add hS).add hS).add hS).trans hA.fr).full hS (by omega)).add hS).set hS (.inr (by omega)) |>.set hS (.inr (by omega))
      · have n1 : i ≠ S.next + 1 := by omega
        have n2 : i ≠ T.next := by omega
        (first | (simp (disch := first | decide | omega | (simp only [add_next, set_next, grow_next, leave_next, drop_next, List.length_map]; first | done | omega)) only [go_sem, ↓reduceIte, Nat.reduceBEq, Nat.reduceAdd, Nat.reduceLeDiff, Nat.reduceEqDiff, Nat.reduceLT, Nat.reduceMul, hO.obn, n1, n2]; first | done | rfl) | rfl)
      · have n1 : j ≠ S.next + 1 := by omega
        have n2 : j ≠ T.next := by omega
        (first | (simp (disch := first | decide | omega | (simp only [add_next, set_next, grow_next, leave_next, drop_next, List.length_map]; first | done | omega)) only [go_sem, ↓reduceIte, Nat.reduceBEq, Nat.reduceAdd, Nat.reduceLeDiff, Nat.reduceEqDiff, Nat.reduceLT, Nat.reduceMul, hO.obi, n1, n2]; first | done | rfl) | rfl)
      · have n1 : k ≠ S.next + 1 := by omega
        have n2 : k ≠ T.next := by omega
        (first | (simp (disch := first | decide | omega | (simp only [add_next, set_next, grow_next, leave_next, drop_next, List.length_map]; first | done | omega)) only [go_sem, ↓reduceIte, Nat.reduceBEq, Nat.reduceAdd, Nat.reduceLeDiff, Nat.reduceEqDiff, Nat.reduceLT, Nat.reduceMul, hO.obp, n1, n2]; first | done | rfl) | rfl)
end Go.Proofs.Ytjjhjhjphhpeiaa

namespace Go.Proofs.Ytjjhjhjphhpeiaa
open Go.RowKit
set_option maxHeartbeats 4000000 in
set_option maxRecDepth 20000 in
theorem del_u64 {S : St} {k c i n : Nat} {es zs : List D} {K : D → St → Prop} (hk : S.ob k = some (ownOb 24 es zs c)) (hl : (flat es ++ zs).length = c * 1) (hw : ∀ d ∈ es, d.width = 1) (hi : i < es.length) (hn : es.length ≤ 1073741824) (hnn : n = es.length)
    (h : ∀ zs' : List D, (flat (es.take i ++ es.drop (i + 1)) ++ zs').length = c * 1 → K (.win k 0 (n - 1) c) (S.set k (ownOb 24 (es.take i ++ es.drop (i + 1)) zs' c))) :
    DCalls Try.prog 111 [.win k 0 n c, .v (.int .i64 i), .v (.int .i64 (i + 1 : Nat))] S K := by
  subst hnn
  have hc := ownOb_len hw (by omega) hl
  have heT : elT Try.prog 26 = some 24 := by kernel_rfl
  have heS : (elT Try.prog 26).isSome = true := by rw [heT]; rfl
  have hsz : szOf Try.prog 24 = 1 := by kernel_rfl
  have hby : bytesOf Try.prog 24 = 8 := by kernel_rfl
  have hzT : zeroT Try.prog 24 = true := by kernel_rfl
  have hzO : zeroOk Try.prog 24 = true := by kernel_rfl
  have hiS := (zeroT_pos hzT).2
  have hk0 := hk
  rw [ownOb_box (by omega)] at hk
  refine dcalls_inline mixed Try.func111 rfl (fun _ _ => by kernel_rfl) (rs := [.tmp 6]) rfl (by kernel_rfl) (fun hS => ?_)
  have b1 : ((i : Int) == ((i + 1 : Nat) : Int)) = false := by simp; omega
  (simp (disch := first | decide | omega | (simp only [add_next, set_next, grow_next, leave_next, drop_next, List.length_map]; first | done | omega)) only [go_sem, ↓reduceIte, Nat.reduceBEq, Nat.reduceAdd, Nat.reduceLeDiff, Nat.reduceEqDiff, Nat.reduceLT, Nat.reduceMul, b1, winOff_zero]; (repeat (with_reducible refine And.intro (by first | omega | assumption | rfl) ?_)))
  refine ddraw_mk 6 (by kernel_rfl) ?_
  (simp (disch := first | decide | omega | (simp only [add_next, set_next, grow_next, leave_next, drop_next, List.length_map]; first | done | omega)) only [go_sem, ↓reduceIte, Nat.reduceBEq, Nat.reduceAdd, Nat.reduceLeDiff, Nat.reduceEqDiff, Nat.reduceLT, Nat.reduceMul, b1, winOff_zero]; (repeat (with_reducible refine And.intro (by first | omega | assumption | rfl) ?_)))
  have hf1 : (flat (es.take i)).length = i * 1 := by rw [dflat_length fun d hd => hw d (List.mem_of_mem_take hd), List.length_take]; congr 1; omega
  have hf2 : (flat (es.drop (i + 1))).length = (es.length - (i + 1)) * 1 := by rw [dflat_length fun d hd => hw d (List.mem_of_mem_drop hd), List.length_drop]
  have hf3 : flat es = flat (es.take i) ++ flat (es.drop i) := by rw [← flat_append, List.take_append_drop]
  have hs : SrcOk S (szOf Try.prog 24) (.win k (winOff c (i + 1) 0 1) (es.length - (i + 1)) (c - (i + 1))) (es.length - (i + 1)) (flat (es.drop (i + 1))) := by
    rw [hsz]
    rcases Nat.lt_or_ge (i + 1) c with h1 | h1
    · rw [winOff_lt h1, Nat.zero_add]
      have := srcOk_own (l := i + 1) (n := es.length - (i + 1)) hk0 hc hw (by omega) (c' := c - (i + 1))
      rwa [List.take_of_length_le (by rw [List.length_drop]; omega)] at this
    · have e0 : es.length - (i + 1) = 0 := by omega
      have e1 : es.drop (i + 1) = [] := List.drop_of_length_le (by omega)
      rw [e0, e1]
      exact ⟨rfl, .inl ⟨rfl, rfl⟩⟩
  have e1 : i + (es.length - (i + 1)) = es.length - 1 := by omega
  have hmul : (es.length - 1) * 1 ≤ c * 1 := Nat.mul_le_mul_right _ (by omega)
  have hmul1 : i * 1 + (es.length - (i + 1)) * 1 = (es.length - 1) * 1 := by rw [← Nat.add_mul, e1]
  have hmul2 : (es.length - 1) * 1 + 1 * 1 = es.length * 1 := by rw [← Nat.add_mul]; congr 1; omega
  have hmul3 : es.length * 1 ≤ c * 1 := Nat.mul_le_mul_right _ hc
  obtain ⟨z1, hz1⟩ : ∃ z1, (flat (es.drop i) ++ zs).drop (flat (es.drop (i + 1))).length = z1 := ⟨_, rfl⟩
  have hl1 : (flat (es.take i ++ es.drop (i + 1)) ++ z1).length = c * 1 := by
    rw [hf3] at hl
    rw [← hz1]
    simp only [flat_append, List.length_append, List.length_drop, hf1, hf2] at hl ⊢
    omega
  refine dappend_in heT heS hiS (m := es.length - (i + 1)) hk hs (by omega) (by omega) (by rw [hsz, e1, hl]; omega) (cs' := flat (es.take i ++ es.drop (i + 1)) ++ z1) (by
    rw [hsz, hf3, List.append_assoc, splice_at (by rw [hf1]; omega), flat_append, hz1]) ?_
  rw [e1]
  have wl : winOff c (es.length - 1) 0 1 = (es.length - 1) * 1 := by rw [winOff_lt (by omega), Nat.zero_add]
  (simp (disch := first | decide | omega | (simp only [add_next, set_next, grow_next, leave_next, drop_next, List.length_map]; first | done | omega)) only [go_sem, ↓reduceIte, Nat.reduceBEq, Nat.reduceAdd, Nat.reduceLeDiff, Nat.reduceEqDiff, Nat.reduceLT, Nat.reduceMul, wl]; (repeat (with_reducible refine And.intro (by first | omega | assumption | rfl) ?_)))
  have e2 : es.length - (es.length - 1) = 1 := by omega
  have hfl : (flat (es.take i ++ es.drop (i + 1))).length = (es.length - 1) * 1 := by rw [flat_append, List.length_append, hf1, hf2]; omega
  rw [e2]
  refine dclear_win heT hzT hzO (bt := 24) (cs := flat (es.take i ++ es.drop (i + 1)) ++ z1) (by (first | (simp (disch := first | decide | omega | (simp only [add_next, set_next, grow_next, leave_next, drop_next, List.length_map]; first | done | omega)) only [go_sem, ↓reduceIte, Nat.reduceBEq, Nat.reduceAdd, Nat.reduceLeDiff, Nat.reduceEqDiff, Nat.reduceLT, Nat.reduceMul]; first | done | rfl) | rfl)) (by rw [hsz, hl1]; omega) fun z2 hz2 => ?_
  rw [hsz] at hz2
  rw [splice_at (by rw [hfl])]
  (simp (disch := first | decide | omega | (simp only [add_next, set_next, grow_next, leave_next, drop_next, List.length_map]; first | done | omega)) only [go_sem, ↓reduceIte, Nat.reduceBEq, Nat.reduceAdd, Nat.reduceLeDiff, Nat.reduceEqDiff, Nat.reduceLT, Nat.reduceMul]; (repeat (with_reducible refine And.intro (by first | omega | assumption | rfl) ?_)))
  rw [St.set_set, List.append_assoc]
  have := h (z2 ++ z1.drop z2.length) (by
    simp only [List.length_append, List.length_drop] at hl1 ⊢
    omega)
  rw [ownOb_box (by omega)] at this
  exact this

set_option maxHeartbeats 4000000 in
set_option maxRecDepth 20000 in
theorem del_val {S : St} {k c i n : Nat} {es zs : List D} {K : D → St → Prop} (hk : S.ob k = some (ownOb 28 es zs c)) (hl : (flat es ++ zs).length = c * 6) (hw : ∀ d ∈ es, d.width = 6) (hi : i < es.length) (hn : es.length ≤ 1073741824) (hnn : n = es.length)
    (h : ∀ zs' : List D, (flat (es.take i ++ es.drop (i + 1)) ++ zs').length = c * 6 → K (.win k 0 (n - 1) c) (S.set k (ownOb 28 (es.take i ++ es.drop (i + 1)) zs' c))) :
    DCalls Try.prog 125 [.win k 0 n c, .v (.int .i64 i), .v (.int .i64 (i + 1 : Nat))] S K := by
  subst hnn
  have hc := ownOb_len hw (by omega) hl
  have heT : elT Try.prog 23 = some 28 := by kernel_rfl
  have heS : (elT Try.prog 23).isSome = true := by rw [heT]; rfl
  have hsz : szOf Try.prog 28 = 6 := by kernel_rfl
  have hby : bytesOf Try.prog 28 = 104 := by kernel_rfl
  have hzT : zeroT Try.prog 28 = true := by kernel_rfl
  have hzO : zeroOk Try.prog 28 = true := by kernel_rfl
  have hiS := (zeroT_pos hzT).2
  have hk0 := hk
  rw [ownOb_box (by omega)] at hk
  refine dcalls_inline mixed Try.func125 rfl (fun _ _ => by kernel_rfl) (rs := [.tmp 6]) rfl (by kernel_rfl) (fun hS => ?_)
  have b1 : ((i : Int) == ((i + 1 : Nat) : Int)) = false := by simp; omega
  (simp (disch := first | decide | omega | (simp only [add_next, set_next, grow_next, leave_next, drop_next, List.length_map]; first | done | omega)) only [go_sem, ↓reduceIte, Nat.reduceBEq, Nat.reduceAdd, Nat.reduceLeDiff, Nat.reduceEqDiff, Nat.reduceLT, Nat.reduceMul, b1, winOff_zero]; (repeat (with_reducible refine And.intro (by first | omega | assumption | rfl) ?_)))
  refine ddraw_mk 6 (by kernel_rfl) ?_
  (simp (disch := first | decide | omega | (simp only [add_next, set_next, grow_next, leave_next, drop_next, List.length_map]; first | done | omega)) only [go_sem, ↓reduceIte, Nat.reduceBEq, Nat.reduceAdd, Nat.reduceLeDiff, Nat.reduceEqDiff, Nat.reduceLT, Nat.reduceMul, b1, winOff_zero]; (repeat (with_reducible refine And.intro (by first | omega | assumption | rfl) ?_)))
  have hf1 : (flat (es.take i)).length = i * 6 := by rw [dflat_length fun d hd => hw d (List.mem_of_mem_take hd), List.length_take]; congr 1; omega
  have hf2 : (flat (es.drop (i + 1))).length = (es.length - (i + 1)) * 6 := by rw [dflat_length fun d hd => hw d (List.mem_of_mem_drop hd), List.length_drop]
  have hf3 : flat es = flat (es.take i) ++ flat (es.drop i) := by rw [← flat_append, List.take_append_drop]
  have hs : SrcOk S (szOf Try.prog 28) (.win k (winOff c (i + 1) 0 6) (es.length - (i + 1)) (c - (i + 1))) (es.length - (i + 1)) (flat (es.drop (i + 1))) := by
    rw [hsz]
    rcases Nat.lt_or_ge (i + 1) c with h1 | h1
    · rw [winOff_lt h1, Nat.zero_add]
      have := srcOk_own (l := i + 1) (n := es.length - (i + 1)) hk0 hc hw (by omega) (c' := c - (i + 1))
      rwa [List.take_of_length_le (by rw [List.length_drop]; omega)] at this
    · have e0 : es.length - (i + 1) = 0 := by omega
      have e1 : es.drop (i + 1) = [] := List.drop_of_length_le (by omega)
      rw [e0, e1]
      exact ⟨rfl, .inl ⟨rfl, rfl⟩⟩
  have e1 : i + (es.length - (i + 1)) = es.length - 1 := by omega
  have hmul : (es.length - 1) * 6 ≤ c * 6 := Nat.mul_le_mul_right _ (by omega)
  have hmul1 : i * 6 + (es.length - (i + 1)) * 6 = (es.length - 1) * 6 := by rw [← Nat.add_mul, e1]
  have hmul2 : (es.length - 1) * 6 + 1 * 6 = es.length * 6 := by rw [← Nat.add_mul]; congr 1; omega
  have hmul3 : es.length * 6 ≤ c * 6 := Nat.mul_le_mul_right _ hc
  obtain ⟨z1, hz1⟩ : ∃ z1, (flat (es.drop i) ++ zs).drop (flat (es.drop (i + 1))).length = z1 := ⟨_, rfl⟩
  have hl1 : (flat (es.take i ++ es.drop (i + 1)) ++ z1).length = c * 6 := by
    rw [hf3] at hl
    rw [← hz1]
    simp only [flat_append, List.length_append, List.length_drop, hf1, hf2] at hl ⊢
    omega
  refine dappend_in heT heS hiS (m := es.length - (i + 1)) hk hs (by omega) (by omega) (by rw [hsz, e1, hl]; omega) (cs' := flat (es.take i ++ es.drop (i + 1)) ++ z1) (by
    rw [hsz, hf3, List.append_assoc, splice_at (by rw [hf1]; omega), flat_append, hz1]) ?_
  rw [e1]
  have wl : winOff c (es.length - 1) 0 6 = (es.length - 1) * 6 := by rw [winOff_lt (by omega), Nat.zero_add]
  (simp (disch := first | decide | omega | (simp only [add_next, set_next, grow_next, leave_next, drop_next, List.length_map]; first | done | omega)) only [go_sem, ↓reduceIte, Nat.reduceBEq, Nat.reduceAdd, Nat.reduceLeDiff, Nat.reduceEqDiff, Nat.reduceLT, Nat.reduceMul, wl]; (repeat (with_reducible refine And.intro (by first | omega | assumption | rfl) ?_)))
  have e2 : es.length - (es.length - 1) = 1 := by omega
  have hfl : (flat (es.take i ++ es.drop (i + 1))).length = (es.length - 1) * 6 := by rw [flat_append, List.length_append, hf1, hf2]; omega
  rw [e2]
  refine dclear_win heT hzT hzO (bt := 28) (cs := flat (es.take i ++ es.drop (i + 1)) ++ z1) (by (first | (simp (disch := first | decide | omega | (simp only [add_next, set_next, grow_next, leave_next, drop_next, List.length_map]; first | done | omega)) only [go_sem, ↓reduceIte, Nat.reduceBEq, Nat.reduceAdd, Nat.reduceLeDiff, Nat.reduceEqDiff, Nat.reduceLT, Nat.reduceMul]; first | done | rfl) | rfl)) (by rw [hsz, hl1]; omega) fun z2 hz2 => ?_
  rw [hsz] at hz2
  rw [splice_at (by rw [hfl])]
  (simp (disch := first | decide | omega | (simp only [add_next, set_next, grow_next, leave_next, drop_next, List.length_map]; first | done | omega)) only [go_sem, ↓reduceIte, Nat.reduceBEq, Nat.reduceAdd, Nat.reduceLeDiff, Nat.reduceEqDiff, Nat.reduceLT, Nat.reduceMul]; (repeat (with_reducible refine And.intro (by first | omega | assumption | rfl) ?_)))
  rw [St.set_set, List.append_assoc]
  have := h (z2 ++ z1.drop z2.length) (by
    simp only [List.length_append, List.length_drop] at hl1 ⊢
    omega)
  rw [ownOb_box (by omega)] at this
  exact this

set_option maxHeartbeats 4000000 in
set_option maxRecDepth 20000 in
theorem ins_u64 {S : St} {k c i n : Nat} {es zs : List D} {x : D} {o : Own} {K : D → St → Prop} (hk : S.ob k = some (ownOb 24 es zs c)) (hl : (flat es ++ zs).length = c * 1) (hw : ∀ d ∈ es, d.width = 1) (hx : x.width = 1) (hi : i ≤ es.length) (hn : es.length ≤ 1073741824) (hkn : k < S.next) (hnn : n = es.length)
    (h : ∀ (c' : Nat) (zs' : List D), es.length + 1 ≤ c' → (flat (es.take i ++ [x] ++ es.drop i) ++ zs').length = c' * 1 → K (.win S.next 0 (n + 1) c') ((S.drop k).add (ownOb 24 (es.take i ++ [x] ++ es.drop i) zs' c'))) :
    DCalls Try.prog 110 [.win k 0 n c, .v (.int .i64 i), .sl o [x]] S K := by
  subst hnn
  have hc := ownOb_len hw (by omega) hl
  have heT : elT Try.prog 26 = some 24 := by kernel_rfl
  have heS : (elT Try.prog 26).isSome = true := by rw [heT]; rfl
  have hsz : szOf Try.prog 24 = 1 := by kernel_rfl
  have hby : bytesOf Try.prog 24 = 8 := by kernel_rfl
  have hzT : zeroT Try.prog 24 = true := by kernel_rfl
  have hzO : zeroOk Try.prog 24 = true := by kernel_rfl
  have hiS := (zeroT_pos hzT).2
  refine DCalls.thaw ?_
  refine dcalls_inline mixed Try.func110 rfl (fun _ _ => by kernel_rfl) (rs := [.tmp 6]) rfl (by kernel_rfl) (fun hS => ?_)
  have hwr : IntKind.i64.wrap ((es.length : Int) + ((1 : Nat) : Int)) = ((es.length + 1 : Nat) : Int) := by rw [IntKind.wrap_i64]; omega
  have h10 : (((1 : Nat) : Int) == 0) = false := by decide
  by_cases hin : i = es.length
  · subst hin
    have b1 : ((es.length : Int) == (es.length : Int)) = true := by simp
    (simp (disch := first | decide | omega | (simp only [add_next, set_next, grow_next, leave_next, drop_next, List.length_map]; first | done | omega)) only [go_sem, ↓reduceIte, Nat.reduceBEq, Nat.reduceAdd, Nat.reduceLeDiff, Nat.reduceEqDiff, Nat.reduceLT, Nat.reduceMul, hwr, h10, b1]; (repeat (with_reducible refine And.intro (by first | omega | assumption | rfl) ?_)))
    refine dappend_own heT heS hzT hzO hk (by rw [hsz]; exact hl) (by rw [hsz]; exact hw) (es2 := [x]) (srcOk_one (by rw [hsz]; exact hx)) rfl (by simp; omega) (by rw [hby]; simp; omega) hkn fun c' zs' h1 h2 => ?_
    (simp (disch := first | decide | omega | (simp only [add_next, set_next, grow_next, leave_next, drop_next, List.length_map]; first | done | omega)) only [go_sem, ↓reduceIte, Nat.reduceBEq, Nat.reduceAdd, Nat.reduceLeDiff, Nat.reduceEqDiff, Nat.reduceLT, Nat.reduceMul]; (repeat (with_reducible refine And.intro (by first | omega | assumption | rfl) ?_)))
    refine ⟨_, _, Thaw.refl _ _ _, ?_⟩
    have := h c' zs' h1
    rw [List.take_of_length_le (Nat.le_refl _), List.drop_of_length_le (Nat.le_refl _), List.append_nil] at this
    exact this (by rw [hsz] at h2; exact h2)
  · have b1 : ((i : Int) == (es.length : Int)) = false := by simp; omega
    have hcap : 0 < c := by omega
    have hk0 := hk
    rw [ownOb_box hcap] at hk
    by_cases hgr : c < es.length + 1
    · have b2 : decide ((c : Int) < ((es.length + 1 : Nat) : Int)) = true := by simp; omega
      have hwr2 : IntKind.i64.wrap (((es.length + 1 : Nat) : Int) - (i : Int)) = ((es.length + 1 - i : Nat) : Int) := by rw [IntKind.wrap_i64]; omega
      have hwr3 : IntKind.i64.wrap ((i : Int) + ((1 : Nat) : Int)) = ((i + 1 : Nat) : Int) := by rw [IntKind.wrap_i64]; omega
      (simp (disch := first | decide | omega | (simp only [add_next, set_next, grow_next, leave_next, drop_next, List.length_map]; first | done | omega)) only [go_sem, ↓reduceIte, Nat.reduceBEq, Nat.reduceAdd, Nat.reduceLeDiff, Nat.reduceEqDiff, Nat.reduceLT, Nat.reduceMul, hwr, h10, b1, b2, hwr2]; (repeat (with_reducible refine And.intro (by first | omega | assumption | rfl) ?_)))
      have hso := srcOk_own0 (c' := c) hk0 hc hw hi
      refine dappend_zeros heT (kk := .i64) (by kernel_rfl) hzT hzO hso (by omega) (by omega) (by omega) (by rw [hby]; omega) fun c' zs' h1 h2 => ?_
      have hfx : (flat [x]).length = 1 := by simpa [flat, D.width] using hx
      have hfB : (flat (es.take i)).length = i * 1 := by rw [dflat_length fun d hd => hw d (List.mem_of_mem_take hd), List.length_take]; congr 1; omega
      have hfC : (flat (es.drop i)).length = (es.length - i) * 1 := by rw [dflat_length fun d hd => hw d (List.mem_of_mem_drop hd), List.length_drop]
      rw [hsz] at h2
      (simp (disch := first | decide | omega | (simp only [add_next, set_next, grow_next, leave_next, drop_next, List.length_map]; first | done | omega)) only [go_sem, ↓reduceIte, Nat.reduceBEq, Nat.reduceAdd, Nat.reduceLeDiff, Nat.reduceEqDiff, Nat.reduceLT, Nat.reduceMul, winOff_lt]; (repeat (with_reducible refine And.intro (by first | omega | assumption | rfl) ?_)))
      have hmin : Nat.min 1 (i + (es.length + 1 - i) - i) = 1 := by show min _ _ = _; omega
      have hzl : 1 ≤ zs'.length := by rw [List.length_append, hfB] at h2; omega
      refine dcopy_win heT hiS (m := 1) (cs := flat (es.take i) ++ zs') (bt := 24) (news := flat [x]) (by (first | (simp (disch := first | decide | omega | (simp only [add_next, set_next, grow_next, leave_next, drop_next, List.length_map]; first | done | omega)) only [go_sem, ↓reduceIte, Nat.reduceBEq, Nat.reduceAdd, Nat.reduceLeDiff, Nat.reduceEqDiff, Nat.reduceLT, Nat.reduceMul]; first | done | rfl) | rfl)) (srcOk_one (by rw [hsz]; exact hx)) (by rw [hsz, h2, hmin]; omega) (cs' := flat (es.take i) ++ flat [x] ++ zs'.drop 1) (by rw [hsz, hmin, List.take_of_length_le (l := flat [x]) (by omega), splice_at (by rw [hfB]), hfx]) ?_
      (simp (disch := first | decide | omega | (simp only [add_next, set_next, grow_next, leave_next, drop_next, List.length_map]; first | done | omega)) only [go_sem, ↓reduceIte, Nat.reduceBEq, Nat.reduceAdd, Nat.reduceLeDiff, Nat.reduceEqDiff, Nat.reduceLT, Nat.reduceMul, winOff_lt, hwr3]; (repeat (with_reducible refine And.intro (by first | omega | assumption | rfl) ?_)))
      refine ddraw_mk 8 (by kernel_rfl) ?_
      (simp (disch := first | decide | omega | (simp only [add_next, set_next, grow_next, leave_next, drop_next, List.length_map]; first | done | omega)) only [go_sem, ↓reduceIte, Nat.reduceBEq, Nat.reduceAdd, Nat.reduceLeDiff, Nat.reduceEqDiff, Nat.reduceLT, Nat.reduceMul, winOff_lt, hwr3]; (repeat (with_reducible refine And.intro (by first | omega | assumption | rfl) ?_)))
      have hmin2 : Nat.min (es.length - i) (i + (es.length + 1 - i) - (i + 1)) = es.length - i := by show min _ _ = _; omega
      have hso2 := srcOk_own (S := (S.add (.box 24 (flat (es.take i) ++ zs'))).set S.next (.box 24 (flat (es.take i) ++ flat [x] ++ zs'.drop 1))) (l := i) (n := es.length - i) (c' := c - i) (k := k) (c := c) (e := 24) (es := es) (zs := zs) (z := 1) (by (first | (simp (disch := first | decide | omega | (simp only [add_next, set_next, grow_next, leave_next, drop_next, List.length_map]; first | done | omega)) only [go_sem, ↓reduceIte, Nat.reduceBEq, Nat.reduceAdd, Nat.reduceLeDiff, Nat.reduceEqDiff, Nat.reduceLT, Nat.reduceMul, hk0]; first | done | rfl) | rfl)) hc hw (by omega)
      rw [List.take_of_length_le (l := es.drop i) (by rw [List.length_drop]; omega)] at hso2
      refine dcopy_win heT hiS (m := es.length - i) (cs := flat (es.take i) ++ flat [x] ++ zs'.drop 1) (bt := 24) (news := flat (es.drop i)) (by (first | (simp (disch := first | decide | omega | (simp only [add_next, set_next, grow_next, leave_next, drop_next, List.length_map]; first | done | omega)) only [go_sem, ↓reduceIte, Nat.reduceBEq, Nat.reduceAdd, Nat.reduceLeDiff, Nat.reduceEqDiff, Nat.reduceLT, Nat.reduceMul]; first | done | rfl) | rfl)) (by rw [hsz]; exact hso2) (by rw [hsz, hmin2]; simp only [List.length_append, hfB, hfx, List.length_drop]; rw [List.length_append, hfB] at h2; omega) (cs' := flat (es.take i ++ [x] ++ es.drop i) ++ (zs'.drop 1).drop ((es.length - i) * 1)) (by rw [hsz, hmin2, List.take_of_length_le (l := flat (es.drop i)) (by omega), splice_at (by rw [List.length_append, hfB, hfx]; omega), hfC, flat_append, flat_append]) ?_
      (simp (disch := first | decide | omega | (simp only [add_next, set_next, grow_next, leave_next, drop_next, List.length_map]; first | done | omega)) only [go_sem, ↓reduceIte, Nat.reduceBEq, Nat.reduceAdd, Nat.reduceLeDiff, Nat.reduceEqDiff, Nat.reduceLT, Nat.reduceMul]; (repeat (with_reducible refine And.intro (by first | omega | assumption | rfl) ?_)))
      refine ⟨_, _, thaw_drop k _, ?_⟩
      rw [St.add_set, St.add_set, St.add_drop _ _ hkn]
      have e1 : i + (es.length + 1 - i) = es.length + 1 := by omega
      rw [e1] at h1 ⊢
      have := h c' (List.drop ((es.length - i) * 1) (List.drop 1 zs')) h1 (by
        simp only [List.length_append, flat_append, hfB, hfC, hfx, List.length_drop]
        rw [List.length_append, hfB] at h2
        omega)
      rw [ownOb_box (by omega)] at this
      exact this
    · have b2 : decide ((c : Int) < ((es.length + 1 : Nat) : Int)) = false := by simp; omega
      have hwr3 : IntKind.i64.wrap ((i : Int) + ((1 : Nat) : Int)) = ((i + 1 : Nat) : Int) := by rw [IntKind.wrap_i64]; omega
      (simp (disch := first | decide | omega | (simp only [add_next, set_next, grow_next, leave_next, drop_next, List.length_map]; first | done | omega)) only [go_sem, ↓reduceIte, Nat.reduceBEq, Nat.reduceAdd, Nat.reduceLeDiff, Nat.reduceEqDiff, Nat.reduceLT, Nat.reduceMul, hwr, hwr3, h10, b1, b2, winOff_lt]; (repeat (with_reducible refine And.intro (by first | omega | assumption | rfl) ?_)))
      refine doverlaps (tr := 4) Try.func130 (by kernel_rfl) (by kernel_rfl) (by kernel_rfl) (by kernel_rfl) heT hiS hk (fun e => by rw [e] at hl; simp at hl; omega) ?_
      (simp (disch := first | decide | omega | (simp only [add_next, set_next, grow_next, leave_next, drop_next, List.length_map]; first | done | omega)) only [go_sem, ↓reduceIte, Nat.reduceBEq, Nat.reduceAdd, Nat.reduceLeDiff, Nat.reduceEqDiff, Nat.reduceLT, Nat.reduceMul, winOff_lt]; (repeat (with_reducible refine And.intro (by first | omega | assumption | rfl) ?_)))
      refine ddraw_mk 8 (by kernel_rfl) ?_
      (simp (disch := first | decide | omega | (simp only [add_next, set_next, grow_next, leave_next, drop_next, List.length_map]; first | done | omega)) only [go_sem, ↓reduceIte, Nat.reduceBEq, Nat.reduceAdd, Nat.reduceLeDiff, Nat.reduceEqDiff, Nat.reduceLT, Nat.reduceMul, winOff_lt, hwr3]; (repeat (with_reducible refine And.intro (by first | omega | assumption | rfl) ?_)))
      have hfx : (flat [x]).length = 1 := by simpa [flat, D.width] using hx
      have hfB : (flat (es.take i)).length = i * 1 := by rw [dflat_length fun d hd => hw d (List.mem_of_mem_take hd), List.length_take]; congr 1; omega
      have hfC : (flat (es.drop i)).length = (es.length - i) * 1 := by rw [dflat_length fun d hd => hw d (List.mem_of_mem_drop hd), List.length_drop]
      have hff : flat es = flat (es.take i) ++ flat (es.drop i) := by rw [← flat_append, List.take_append_drop]
      have hzl : 1 ≤ zs.length := by rw [List.length_append, hff, List.length_append, hfB, hfC] at hl; omega
      have hmin : Nat.min (es.length + 1 - i) (es.length + 1 - (i + 1)) = es.length - i := by show min _ _ = _; omega
      obtain ⟨cs1, hcs1⟩ : ∃ cs1, splice (flat es ++ zs) ((i + 1) * 1) (flat (es.drop i)) = cs1 := ⟨_, rfl⟩
      have hcl : cs1.length = c * 1 := by rw [← hcs1, splice_len, hl]; rw [hl, hfC]; omega
      refine dcopy_win heT hiS (m := es.length + 1 - i) hk (srcOk_win hk (by rw [hsz, hl]; omega)) (by rw [hsz, hmin, hl]; omega) (cs' := cs1) (by
        rw [hsz, hmin, ← hcs1, List.take_take, Nat.min_eq_left (by omega), List.drop_append_of_le_length (by rw [hff, List.length_append, hfB]; omega), flat_drop hw, List.take_append_of_le_length (by omega), List.take_of_length_le (by omega)]) ?_
      (simp (disch := first | decide | omega | (simp only [add_next, set_next, grow_next, leave_next, drop_next, List.length_map]; first | done | omega)) only [go_sem, ↓reduceIte, Nat.reduceBEq, Nat.reduceAdd, Nat.reduceLeDiff, Nat.reduceEqDiff, Nat.reduceLT, Nat.reduceMul, winOff_lt, hwr3]; (repeat (with_reducible refine And.intro (by first | omega | assumption | rfl) ?_)))
      have hmin2 : Nat.min 1 (es.length + 1 - i) = 1 := by show min _ _ = _; omega
      refine dcopy_win heT hiS (m := 1) (cs := cs1) (bt := 24) (news := flat [x]) (by (first | (simp (disch := first | decide | omega | (simp only [add_next, set_next, grow_next, leave_next, drop_next, List.length_map]; first | done | omega)) only [go_sem, ↓reduceIte, Nat.reduceBEq, Nat.reduceAdd, Nat.reduceLeDiff, Nat.reduceEqDiff, Nat.reduceLT, Nat.reduceMul]; first | done | rfl) | rfl)) (srcOk_one (by rw [hsz]; exact hx)) (by rw [hsz, hmin2, hcl]; omega) (cs' := flat (es.take i ++ [x] ++ es.drop i) ++ zs.drop 1) (by rw [hsz, hmin2, List.take_of_length_le (l := flat [x]) (by omega), ← hcs1, hff, ins_old (by rw [hfB]) (by rw [hfB, hfx]; omega) (by omega), hfx, flat_append, flat_append]) ?_
      (simp (disch := first | decide | omega | (simp only [add_next, set_next, grow_next, leave_next, drop_next, List.length_map]; first | done | omega)) only [go_sem, ↓reduceIte, Nat.reduceBEq, Nat.reduceAdd, Nat.reduceLeDiff, Nat.reduceEqDiff, Nat.reduceLT, Nat.reduceMul]; (repeat (with_reducible refine And.intro (by first | omega | assumption | rfl) ?_)))
      rw [St.set_set]
      refine ⟨_, _, thaw_rename (o := .box 24 (flat (es.take i ++ [x] ++ es.drop i) ++ zs.drop 1)) (by simp [St.set]), ?_⟩
      rw [St.set_drop]
      have := h c (zs.drop 1) (by omega) (by
        simp only [List.length_append, flat_append, hfB, hfC, hfx, List.length_drop]
        rw [List.length_append, hff, List.length_append, hfB, hfC] at hl
        omega)
      rw [ownOb_box (by omega)] at this
      exact this

end Go.Proofs.Ytjjhjhjphhpeiaa
