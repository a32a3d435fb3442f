/- Texts of a proof, part 8. Conditions: none. -/
import Derived.Test.YtjjhjhjphhpeiaaCLawDC7
import Derived.Laws.CopyRow
import Derived.Laws.Externs
set_option linter.unusedVariables false
set_option linter.unusedSimpArgs false
/- Slices over variables of the call's own: copied to, appended to, cleared, made; owned slices. Conditions: none. -/
namespace Go.Proofs.Ytjjhjhjphhpeiaa
open Go.RowKit

/-- A slice (or nothing) as a source of m elements' cells. -/
def SrcOk (S : St) (z : Nat) (d : D) (m : Nat) (news : List D) : Prop := match d with
  | .sl _ es => (∀ x ∈ es, x.width = z) ∧ m = es.length ∧ news = flat es
  | .win k off n _ => m = n ∧ (n = 0 ∧ news = [] ∨ ∃ t cs, S.ob k = some (.box t cs) ∧ off + n * z ≤ cs.length ∧ news = (cs.drop off).take (n * z))
  | _ => False
theorem srcOk_sl {S : St} {z : Nat} {o : Own} {es : List D} (h : ∀ x ∈ es, x.width = z) : SrcOk S z (.sl o es) es.length (flat es) := ⟨h, rfl, rfl⟩
theorem srcOk_one {S : St} {z : Nat} {o : Own} {x : D} (h : x.width = z) : SrcOk S z (.sl o [x]) 1 (flat [x]) := ⟨fun y hy => by rw [List.mem_singleton] at hy; subst hy; exact h, rfl, rfl⟩
theorem srcOk_win {S : St} {z k off n c : Nat} {t : TypeId} {cs : List D} (hk : S.ob k = some (.box t cs)) (h : off + n * z ≤ cs.length) : SrcOk S z (.win k off n c) n ((cs.drop off).take (n * z)) := ⟨rfl, .inr ⟨t, cs, hk, h, rfl⟩⟩
structure SrcAt (w : World) (z : Nat) (v : Value) (m : Nat) (us : List Value) : Prop where
  sl : ∃ A c, v = .slice A m c ∧ m ≤ 140737488355328 ∧ ((A = none ∧ m = 0) ∨ ∃ a, A = some a ∧ ∀ (j : Nat) u, us[j]? = some u → w.cell? (a.add j) = some u)
  len : us.length = m * z
  one : ∀ u ∈ us, u.oneCell' = true
section
variable {P : Program} {base : Nat} {S : St} {η : Names} {w : World}
theorem take_mul {α : Type} {l : List α} {q m z : Nat} (h : l.length = m * z) (hq : q ≤ m) : (l.take (q * z)).length = q * z := by
  rw [List.length_take, h]
  exact Nat.min_eq_left (Nat.mul_le_mul_right _ hq)
theorem SrcOk.length {z : Nat} {d : D} {m : Nat} {news : List D} (h : SrcOk S z d m news) : news.length = m * z := by
  cases d with
  | sl o es => obtain ⟨h1, rfl, rfl⟩ := h; exact dflat_length h1
  | win k off n c =>
    obtain ⟨rfl, ⟨h1, rfl⟩ | ⟨t, cs, _, h2, rfl⟩⟩ := h
    · rw [h1]; simp
    · rw [List.length_take, List.length_drop]; omega
  | _ => exact h.elim
theorem srcOk_at (hM : Mem P base S η w) {z : Nat} {d : D} {m : Nat} {news : List D} {v : Value} (hs : SrcOk S z d m news) (hr : Rep P w η (Fix P S η) d v) :
    ∃ us, SrcAt w z v m us ∧ RepL P w η (Fix P S η) news us := by
  cases d with
  | sl o es =>
    obtain ⟨h1, rfl, rfl⟩ := hs
    simp only [Rep] at hr
    obtain ⟨A, c, rfl, h2, h3, h4, h5⟩ := hr
    rcases Nat.eq_zero_or_pos es.length with h0 | h0
    · have : es = [] := List.eq_nil_of_length_eq_zero h0
      subst this
      refine ⟨[], ⟨⟨A, c, rfl, by simp, ?_⟩, by simp, fun u hu => by cases hu⟩, by simp [flat, RepL]⟩
      cases A with
      | none => exact .inl ⟨rfl, rfl⟩
      | some a => exact .inr ⟨a, rfl, fun j u hu => by simp at hu⟩
    · obtain ⟨b, o, z', rfl, hz', hr⟩ := h5 h0
      obtain ⟨k1, k2⟩ := RepE.flat hr
      obtain ⟨vs, g1, g2, g3, g4⟩ := k2.range
      exact ⟨vs, ⟨⟨_, c, rfl, h3, .inr ⟨_, rfl, fun j u hu => by rw [Addr.add_mid]; exact g2 j u hu⟩⟩, by rw [g1, dflat_length h1], g4⟩, g3⟩
  | win k off n c =>
    obtain ⟨rfl, h⟩ := hs
    obtain ⟨A, rfl, h2, h3, h4⟩ := hr.win_slice
    rcases h with ⟨rfl, rfl⟩ | ⟨t, cs, h5, h6, rfl⟩
    · refine ⟨[], ⟨⟨A, c, rfl, by simp, ?_⟩, by simp, fun u hu => by cases hu⟩, by simp [RepL]⟩
      cases A with
      | none => exact .inl ⟨rfl, rfl⟩
      | some a => exact .inr ⟨a, rfl, fun j u hu => by simp at hu⟩
    · obtain ⟨b, hb⟩ := hM.live k t cs h5
      rcases h4 with ⟨b', h4, rfl⟩ | ⟨h4, _⟩
      rotate_left
      · rw [hb] at h4; cases h4
      have : b' = b := by rw [hb] at h4; injection h4 with h4; injection h4 with h4; exact h4.symm
      subst this
      obtain ⟨vs, g1, g2, g3⟩ := hM.box k t cs b' h5 hb
      have hl := g2.length
      refine ⟨(vs.drop off).take (m * z), ⟨⟨_, c, rfl, h3, .inr ⟨_, rfl, fun j u hu => ?_⟩⟩, by rw [List.length_take, List.length_drop]; omega, fun u hu => g3 u (List.mem_of_mem_drop (List.mem_of_mem_take hu))⟩, (g2.drop off).take _⟩
      rw [Addr.add_mid]
      have : w.cell? ⟨b', off + j, none⟩ = vs.toArray[off + j]? := by simp [World.cell?, g1]
      rw [this]
      rw [List.getElem?_take] at hu
      split at hu
      · rw [List.getElem?_drop] at hu
        simpa using hu
      · cases hu
  | _ => exact hs.elim
theorem SrcAt.src {z : Nat} {v : Value} {m : Nat} {us : List Value} {tx : TypeId} (h : SrcAt w z v m us) (ht : (elT P tx).isSome = true) : Src P z tx v m us w := by
  obtain ⟨e', he'⟩ := Option.isSome_iff_exists.1 ht
  have hk := elT_spec he'
  obtain ⟨⟨A, c, rfl, _, ⟨rfl, rfl⟩ | ⟨a, rfl, ha⟩⟩, h2, h3⟩ := h
  · have : us = [] := List.eq_nil_of_length_eq_zero (by rw [h2]; simp)
    subst this
    exact Src.ofNil w hk c
  · exact Src.ofSlice w hk a m c us h2 ha h3
theorem SrcAt.first {z : Nat} {v : Value} {m : Nat} {us : List Value} (h : SrcAt w z v m us) {q : Nat} (hq : q ≤ m) : (Builtin.firstCells z q v).run P w = .ok (us.take (q * z)).toArray w := by
  obtain ⟨⟨A, c, rfl, _, ⟨rfl, rfl⟩ | ⟨a, rfl, ha⟩⟩, h2, h3⟩ := h
  · have : us = [] := List.eq_nil_of_length_eq_zero (by rw [h2]; simp)
    subst this
    simp [run_firstCells_none]
  · refine run_firstCells_some w z q a m c _ (take_mul h2 hq) fun j u hu => ha j u ?_
    rw [List.getElem?_take] at hu
    split at hu
    · exact hu
    · cases hu
theorem SrcAt.lenOf {z : Nat} {v : Value} {m : Nat} {us : List Value} (h : SrcAt w z v m us) (w' : World) : (Builtin.lenOf v).run P w' = .ok m w' := by
  obtain ⟨⟨A, c, rfl, _⟩, _⟩ := h
  rfl
/-- A window over a live variable has its block. -/
theorem win_live (hM : Mem P base S η w) {k off n c : Nat} {t : TypeId} {cs : List D} {v : Value} (hk : S.ob k = some (.box t cs)) (hr : Rep P w η (Fix P S η) (.win k off n c) v) :
    ∃ b vs, v = .slice (some ⟨b, off, none⟩) n c ∧ η k = some (some b) ∧ w.heap[b]? = some (.cells vs.toArray t (0, 0)) ∧ RepL P w η (Fix P S η) cs vs ∧ (∀ x ∈ vs, x.oneCell' = true) ∧ n ≤ c ∧ n ≤ 140737488355328 := by
  obtain ⟨A, rfl, h2, h3, h4⟩ := hr.win_slice
  obtain ⟨b, hb⟩ := hM.live k t cs hk
  rcases h4 with ⟨b', h4, rfl⟩ | ⟨h4, _⟩
  · have : b' = b := by rw [hb] at h4; injection h4 with h4; injection h4 with h4; exact h4.symm
    subst this
    obtain ⟨vs, g1, g2, g3⟩ := hM.box k t cs b' hk hb
    exact ⟨b', vs, rfl, h4, g1, g2, g3, h2, h3⟩
  · rw [hb] at h4; cases h4
theorem splice_len {cs ds : List D} {off : Nat} (h : off + ds.length ≤ cs.length) : (splice cs off ds).length = cs.length := by
  simp only [splice, List.length_append, List.length_take, List.length_drop]
  omega
theorem one_splice {vs us : List Value} {off : Nat} (h : ∀ x ∈ vs, x.oneCell' = true) (k : ∀ x ∈ us, x.oneCell' = true) : ∀ x ∈ vs.take off ++ us ++ vs.drop (off + us.length), x.oneCell' = true := fun u hu => by
  rcases List.mem_append.1 hu with hu | hu
  · rcases List.mem_append.1 hu with hu | hu
    · exact h u (List.mem_of_mem_take hu)
    · exact k u hu
  · exact h u (List.mem_of_mem_drop hu)
/-- Elements are copied into a variable. -/
theorem dcopy_win {t tx ty e : TypeId} (he : elT P t = some e) (hi : (P.info? e).isSome = true) {k off n c m : Nat} {bt : TypeId} {cs news : List D} {y : D} {K : D → St → Prop} (hk : S.ob k = some (.box bt cs)) (hs : SrcOk S (szOf P e) y m news) (hfit : off + Nat.min m n * szOf P e ≤ cs.length)
    {cs' : List D} (hcs : splice cs off (news.take (Nat.min m n * szOf P e)) = cs') (h : K (.v (.int .i64 (Nat.min m n : Nat))) (S.set k (.box bt cs'))) : dcopy P #[t, tx] ty (.win k off n c) y S K := by
  subst hcs
  intro base η w vs hM hr
  simp only [RepL] at hr
  obtain ⟨x1, _, rfl, r1, x2, _, rfl, r2, rfl⟩ := hr
  obtain ⟨us, s1, s2⟩ := srcOk_at hM hs r2
  obtain ⟨b, bs, rfl, hb, g1, g2, g3, g4, g5⟩ := win_live hM hk r1
  obtain ⟨i, hi⟩ := Option.isSome_iff_exists.1 hi
  have hsz : szOf P e = i.size := by simp [szOf, hi]
  have hu := elT_spec he
  have hl := g2.length
  have hul := take_mul s1.len (Nat.min_le_left m n)
  have hf := s1.first (P := P) (Nat.min_le_left m n)
  have h1 : ∀ u ∈ us.take (Nat.min m n * szOf P e), u.oneCell' = true := fun u hu => s1.one u (List.mem_of_mem_take hu)
  have hst := run_storeCells_at P b off bt (us.take (Nat.min m n * szOf P e)) 0 bs.toArray w g1 (by rw [Nat.add_zero, hul, List.size_toArray, hl]; exact hfit) h1
  simp only [Nat.add_zero] at hst
  have hnl := take_mul hs.length (Nat.min_le_left m n)
  have G := goes_set hM hk hb (splice_len (by rw [hnl]; exact hfit)) (splice_rep g2 (s2.take (Nat.min m n * szOf P e))) (one_splice g3 h1)
  refine ⟨_, _, η, .int .i64 (Nat.min m n : Nat), _, ?_, h, by simp only [Rep], G⟩
  rw [hsz] at hf hst ⊢
  simp [Builtin.copy_, run_underlying hu, s1.lenOf, sizeOf, typeInfo, hi, hf, hst, goInt]
theorem run_append_room_at (w : World) (t tx ty e : TypeId) (i : TypeInfo) (ht : P.underlying t = some (.slice e)) (hi : P.info? e = some i) (b off sLen sCap : Nat) (bt : TypeId) (x : Value) (n : Nat) (news : List Value) (hs : Src P i.size tx x n news w)
    (cur : Array Value) (hg : w.heap[b]? = some (.cells cur bt (0, 0))) (hroom : sLen + n ≤ sCap) (hfit : off + sLen * i.size + news.length ≤ cur.size) :
    (Builtin.append_ #[t, tx] ty #[.slice (some ⟨b, off, none⟩) sLen sCap, x]).run P w = .ok (.slice (some ⟨b, off, none⟩) (sLen + n) sCap) (w.setRow b (cur.toList.take (off + sLen * i.size) ++ news ++ cur.toList.drop (off + sLen * i.size + news.length)).toArray) := by
  have hst := run_storeCells_at P b (off + sLen * i.size) bt news 0 cur w hg (by simpa using hfit) hs.one
  simp only [Nat.add_zero] at hst
  rcases hs.kind with ⟨e', hk⟩ | hk <;> simp [Builtin.append_, run_underlying ht, run_underlying hk, sizeOf, typeInfo, hi, hs.len, hroom, hs.cells, Addr.add_lit, hst]
def dappW (P : Program) (t tx ty : TypeId) (x y : D) (S : St) (K : D → St → Prop) : Prop := DRun P (fun vs => Builtin.append_ #[t, tx] ty vs.toArray) [x, y] S K
theorem dapp_atw {t tx ty : TypeId} {k off n c : Nat} {y : D} {K : D → St → Prop} : dapp P S t tx ty (.win k off n c) y K = dappW P t tx ty (.win k off n c) y S K := rfl
attribute [go_sem] dapp_atw
/-- Appended to nothing. -/
theorem dapp_nil {t tx ty e : TypeId} {own o2 : Own} {es es2 : List D} {K : D → St → Prop} (he : elT P t = some e) (h : dappW P t tx ty (.sl own es) (.sl o2 es2) S K) : dapp P S t tx ty (.sl own es) (.sl o2 es2) K := dapp_step he h
/-- There is room. -/
theorem dappend_in {t tx ty e : TypeId} (he : elT P t = some e) (hx : (elT P tx).isSome = true) (hi : (P.info? e).isSome = true) {k off n c m : Nat} {bt : TypeId} {cs news : List D} {y : D} {K : D → St → Prop} (hk : S.ob k = some (.box bt cs)) (hs : SrcOk S (szOf P e) y m news)
    (hroom : n + m ≤ c) (hb : n + m ≤ 140737488355328) (hfit : off + (n + m) * szOf P e ≤ cs.length) {cs' : List D} (hcs : splice cs (off + n * szOf P e) news = cs') (h : K (.win k off (n + m) c) (S.set k (.box bt cs'))) : dappW P t tx ty (.win k off n c) y S K := by
  subst hcs
  intro base η w vs hM hr
  simp only [RepL] at hr
  obtain ⟨x1, _, rfl, r1, x2, _, rfl, r2, rfl⟩ := hr
  obtain ⟨us, s1, s2⟩ := srcOk_at hM hs r2
  obtain ⟨b, bs, rfl, hbb, g1, g2, g3, g4, g5⟩ := win_live hM hk r1
  obtain ⟨i, hi⟩ := Option.isSome_iff_exists.1 hi
  have hsz : szOf P e = i.size := by simp [szOf, hi]
  have hu := elT_spec he
  have hl := g2.length
  have hf : off + n * szOf P e + us.length ≤ bs.toArray.size := by
    rw [s1.len, List.size_toArray, hl, Nat.add_assoc, ← Nat.add_mul]; exact hfit
  have hrun := run_append_room_at (P := P) w t tx ty e i hu hi b off n c bt x2 m us (hsz ▸ s1.src hx) bs.toArray g1 hroom (hsz ▸ hf)
  have G := goes_set hM hk hbb (splice_len (by rw [hs.length, Nat.add_assoc, ← Nat.add_mul]; exact hfit)) (splice_rep g2 s2) (one_splice (off := off + n * szOf P e) g3 s1.one)
  refine ⟨_, _, η, _, _, hrun, h, by simp only [Rep]; exact .inl ⟨b, hbb, rfl, hroom, hb⟩, ?_⟩
  rw [← hsz]
  exact G
/-- There is none: a new variable. -/
theorem dappend_new {t tx ty e : TypeId} (he : elT P t = some e) (hx : (elT P tx).isSome = true) (hz : zeroT P e = true) (hz2 : zeroOk P e = true) {n c m : Nat} {x : D} {olds news : List D} {y : D} {K : D → St → Prop} (ho : SrcOk S (szOf P e) x n olds) (hxc : ∀ k' off' n' c', x = .win k' off' n' c' → c' = c) (hxs : ∀ o es, x = .sl o es → o = .full ∧ c = es.length) (hs : SrcOk S (szOf P e) y m news)
    (hgrow : c < n + m) (hb : n + m ≤ 140737488355328) (hby : (n + m) * bytesOf P e ≤ 140737488355328)
    (h : ∀ (c' : Nat) (zs : List D), n + m ≤ c' → (olds ++ news ++ zs).length = c' * szOf P e → K (.win S.next 0 (n + m) c') (S.add (.box e (olds ++ news ++ zs)))) : dappW P t tx ty x y S K := by
  intro base η w vs hM hr
  simp only [RepL] at hr
  obtain ⟨x1, _, rfl, r1, x2, _, rfl, r2, rfl⟩ := hr
  obtain ⟨us, s1, s2⟩ := srcOk_at hM hs r2
  obtain ⟨os, o1, o2⟩ := srcOk_at hM ho r1
  obtain ⟨i, z, hi, hzr, hzs, hpos, hsz, hbz⟩ := zeroT_spec hz
  obtain ⟨z2, i2, hi2, hz2r, _, hz1, _⟩ := zeroOk_spec hz2
  rw [hi] at hi2
  injection hi2 with hi2
  subst hi2
  rw [hzr] at hz2r
  injection hz2r with hz2r
  subst hz2r
  have hu := elT_spec he
  have hel : (elT P t).isSome = true := by rw [he]; rfl
  obtain ⟨A, cc, e1, _, _⟩ := o1.sl
  have hcc : cc = c := by
    cases x with
    | win k' off' n' c' =>
      obtain ⟨A', e2, _⟩ := r1.win_slice
      rw [e1] at e2
      injection e2 with _ _ e2
      rw [e2]
      exact hxc _ _ _ _ rfl
    | sl o es =>
      obtain ⟨rfl, rfl⟩ := hxs _ _ rfl
      simp only [Rep, OwnAt] at r1
      obtain ⟨A', c', e2, _, _, rfl, _⟩ := r1
      rw [e1] at e2
      injection e2 with _ _ e2
    | _ => exact ho.elim
  subst hcc
  subst e1
  have hso := o1.src hel
  have hsn := s1.src hx
  rw [hsz] at hso hsn
  have hcold := hso.cellsD
  have hrun := run_append_grow_src (P := P) w t tx ty e i z hu hi hzr A n cc os hcold x2 m us hsn hgrow (by omega) (growslice_fits hgrow (by rw [← hbz]; exact hby))
  have G1 := goes_drew hM
  have hge := grownCap_ge w (n + m) cc e
  have G3 := G1.trans (goes_name G1.mem (.box e (olds ++ news ++ (Builtin.zeroCells z.cells (grownCap w (n + m) cc e - (n + m))).toList.map ofV)) ((os ++ us).toArray ++ Builtin.zeroCells z.cells (grownCap w (n + m) cc e - (n + m))) e
    (.inl ⟨_, os ++ us ++ (Builtin.zeroCells z.cells (grownCap w (n + m) cc e - (n + m))).toList, rfl, by apply Array.ext'; simp, RepL.append (RepL.append (G1.repL o2) (G1.repL s2)) (zeroD_rep _), fun u hu' => (List.mem_append.1 hu').elim (fun hh => (List.mem_append.1 hh).elim (o1.one u) (s1.one u)) fun hh => hz1 u (zeroCells_mem hh)⟩))
  refine ⟨_, _, _, _, _, hrun, h _ _ hge ?_, ?_, G3⟩
  · have e1 := size_zeroCells z.cells (grownCap w (n + m) cc e - (n + m))
    rw [← Array.length_toList] at e1
    rw [List.length_append, List.length_append, List.length_map, ho.length, hs.length, e1, hzs, hsz, ← Nat.add_mul, ← Nat.add_mul]
    congr 1
    omega
  · simp only [Rep]
    exact .inl ⟨w.heap.size, by simp only [Names.add, ↓reduceIte]; rfl, rfl, hge, hb⟩
/-! ### Owned slices -/
theorem DRun.thaw {run : List Value → Sem Value} {args : List D} {K : D → St → Prop} (h : DRun P run args S fun d S' => ∃ S1 d1, Thaw P S' d S1 d1 ∧ K d1 S1) : DRun P run args S K := fun base η w vs hM hr => by
  obtain ⟨d, S', η', v, w', h1, ⟨S1, d1, h2, h3⟩, h4, h5⟩ := h base η w vs hM hr
  obtain ⟨η2, k1, k2⟩ := h2 base η' w' v h5.mem h4
  exact ⟨d1, S1, η2, v, w', h1, h3, k2, h5.trans k1⟩
theorem DCalls.thaw {g : FuncId} {args : List D} {K : D → St → Prop} (h : DCalls P g args S fun d S' => ∃ S1 d1, Thaw P S' d S1 d1 ∧ K d1 S1) : DCalls P g args S K := fun base η w vs hM hr => by
  rcases h base η w vs hM hr with ⟨h1, h2⟩ | ⟨d, S', η', v, w', h1, ⟨S1, d1, h2, h3⟩, h4, h5⟩
  · refine .inl ⟨h1, h2.mono fun e w' ⟨d, S', η', v, ⟨S1, d1, h2, h3⟩, he, h4, h5⟩ => ?_⟩
    obtain ⟨η2, k1, k2⟩ := h2 base η' w' v h5.mem h4
    exact ⟨d1, S1, η2, v, h3, he, k2, h5.trans k1⟩
  · obtain ⟨η2, k1, k2⟩ := h2 base η' w' v h5.mem h4
    exact .inr ⟨d1, S1, η2, v, w', h1, h3, k2, h5.trans k1⟩
/-- A name is changed for a new one. -/
theorem goes_rename (h : Mem P base S η w) {k : Nat} {o : Ob} {b : Option Nat} (hk : S.ob k = some o) (hb : η k = some b) : Goes P base S η w ((S.drop k).add o) (η.add S.next b) w := by
  have hkn : k < S.next := h.lt (by rw [hb]; rfl)
  have ob_new : ((S.drop k).add o).ob S.next = some o := by simp [St.add, St.drop]
  have ob_old : ∀ j, j ≠ S.next → ((S.drop k).add o).ob j = if j = k then none else S.ob j := fun j hj => by simp [St.add, St.drop, hj]
  have ob_some : ∀ j o', ((S.drop k).add o).ob j = some o' → (j = S.next ∧ o' = o) ∨ (j ≠ S.next ∧ j ≠ k ∧ S.ob j = some o') := fun j o' hj => by
    by_cases e : j = S.next
    · subst e; rw [ob_new] at hj; injection hj with hj; exact .inl ⟨rfl, hj.symm⟩
    · rw [ob_old j e] at hj
      by_cases e2 : j = k
      · rw [if_pos e2] at hj; cases hj
      · rw [if_neg e2] at hj; exact .inr ⟨e, e2, hj⟩
  have eta_new : (η.add S.next b) S.next = some b := by simp [Names.add]
  have eta_old : ∀ j, j ≠ S.next → (η.add S.next b) j = η j := fun j hj => by simp [Names.add, hj]
  have K : Keep (fun _ => True) w η (Fix P S η) w (η.add S.next b) (Fix P ((S.drop k).add o) (η.add S.next b)) := by
    refine ⟨Nat.le_refl _, fun q i _ hx => ⟨fun j o' hj ho => ?_, rfl⟩, fun j c _ hj => ?_, fun q cur e hq => ⟨cur, hq, rfl⟩⟩
    · rcases ob_some j o' ho with ⟨rfl, rfl⟩ | ⟨e1, e2, e3⟩
      · rw [eta_new] at hj
        injection hj with hj
        exact hx k o' (by rw [hb, hj]) hk
      · rw [eta_old j e1] at hj
        exact hx j o' hj e3
    · have : j ≠ S.next := fun e => by subst e; rw [h.dead _ (Nat.le_refl _)] at hj; cases hj
      rw [eta_old j this]; exact hj
  have src : ∀ j b', (η.add S.next b) j = some (some b') → (((S.drop k).add o).ob j).isSome = true → ∃ j', η j' = some (some b') ∧ (S.ob j').isSome = true ∧ ((j = S.next ∧ j' = k) ∨ (j ≠ S.next ∧ j ≠ k ∧ j' = j)) := fun j b' hj ho => by
    obtain ⟨o', ho⟩ := Option.isSome_iff_exists.1 ho
    rcases ob_some j o' ho with ⟨rfl, rfl⟩ | ⟨e1, e2, e3⟩
    · rw [eta_new] at hj
      injection hj with hj
      exact ⟨k, by rw [hb, hj], by rw [hk]; rfl, .inl ⟨rfl, rfl⟩⟩
    · rw [eta_old j e1] at hj
      exact ⟨j, hj, by rw [e3]; rfl, .inr ⟨e1, e2, rfl⟩⟩
  refine ⟨⟨h.base_, fun j hj => ?_, fun j hj => ?_, fun j t cs hj => ?_, fun j j' b' h1 h2 h3 h4 => ?_, fun j b' hj => ?_, fun j t cs b' h1 h2 => ?_, fun j e n b' h1 h2 => ?_, h.glob⟩, K, Below.refl _ _⟩
  · have hj' : S.next + 1 ≤ j := hj
    rw [eta_old j (by omega)]; exact h.dead j (by omega)
  · have hj' : S.next + 1 ≤ j := hj
    rw [ob_old j (by omega), if_neg (by omega)]; exact h.fresh j (by omega)
  · rcases ob_some j _ hj with ⟨rfl, rfl⟩ | ⟨e1, e2, e3⟩
    · obtain ⟨b', hb'⟩ := h.live k t cs hk
      rw [hb] at hb'
      injection hb' with hb'
      exact ⟨b', by rw [eta_new, hb']⟩
    · obtain ⟨b', hb'⟩ := h.live j t cs e3
      exact ⟨b', by rw [eta_old j e1]; exact hb'⟩
  · obtain ⟨i, a1, a2, a3⟩ := src j b' h1 h3
    obtain ⟨i', c1, c2, c3⟩ := src j' b' h2 h4
    have := h.inj i i' b' a1 c1 a2 c2
    rcases a3 with ⟨rfl, rfl⟩ | ⟨a3, a4, rfl⟩ <;> rcases c3 with ⟨rfl, rfl⟩ | ⟨c3, c4, rfl⟩
    · rfl
    · exact absurd this.symm c4
    · exact absurd this a4
    · exact this
  · by_cases e : j = S.next
    · subst e
      rw [eta_new] at hj
      injection hj with hj
      exact h.in_ k b' (by rw [hb, hj])
    · rw [eta_old j e] at hj; exact h.in_ j b' hj
  · rcases ob_some j _ h1 with ⟨rfl, rfl⟩ | ⟨e1, e2, e3⟩
    · rw [eta_new] at h2
      injection h2 with h2
      obtain ⟨vs, k1, k2, k3⟩ := h.box k t cs b' hk (by rw [hb, h2])
      exact ⟨vs, k1, RepL.keep K (allL_true _) k2, k3⟩
    · rw [eta_old j e1] at h2
      obtain ⟨vs, k1, k2, k3⟩ := h.box j t cs b' e3 h2
      exact ⟨vs, k1, RepL.keep K (allL_true _) k2, k3⟩
  · rcases ob_some j _ h1 with ⟨rfl, rfl⟩ | ⟨e1, e2, e3⟩
    · rw [eta_new] at h2
      injection h2 with h2
      exact h.row k e n b' hk (by rw [hb, h2])
    · rw [eta_old j e1] at h2
      exact h.row j e n b' e3 h2
theorem thaw_rename {k off n c : Nat} {o : Ob} (hk : S.ob k = some o) : Thaw P S (.win k off n c) ((S.drop k).add o) (.win S.next off n c) := fun base η w v hM hr => by
  simp only [Rep] at hr
  rcases hr with ⟨b, h1, h2⟩ | ⟨h1, h2⟩
  · exact ⟨_, goes_rename hM hk h1, by simp only [Rep]; exact .inl ⟨b, by simp [Names.add], h2⟩⟩
  · exact ⟨_, goes_rename hM hk h1, by simp only [Rep]; exact .inr ⟨by simp [Names.add], h2⟩⟩
theorem thaw_drop (k : Nat) (d : D) : Thaw P S d (S.drop k) d := fun base η w v hM hr => ⟨η, goes_drop hM k, (goes_drop hM k).rep hr⟩
/-- Nothing, as an owned slice. -/
theorem thaw_nil (e : TypeId) : Thaw P S (.sl .full []) (S.add (.row e 0)) (.win S.next 0 0 0) := fun base η w v hM hr => by
  simp only [Rep, OwnAt] at hr
  obtain ⟨A, c, rfl, _, _, rfl, _⟩ := hr
  refine ⟨_, goes_bare hM e 0, ?_⟩
  unfold Rep
  exact .inr ⟨by simp [Names.add], rfl, rfl, A, rfl⟩
theorem St.set_drop (S : St) (k : Nat) (o : Ob) : (S.set k o).drop k = S.drop k := by
  unfold St.set St.drop
  congr 1
  funext j
  by_cases h : j = k <;> simp [h]
theorem St.add_set (S : St) (o o' : Ob) : (S.add o).set S.next o' = S.add o' := by
  unfold St.set St.add
  congr 1
  funext j
  by_cases h : j = S.next <;> simp [h]
theorem St.set_set (S : St) (k : Nat) (o o' : Ob) : (S.set k o).set k o' = S.set k o' := by
  unfold St.set
  congr 1
  funext j
  by_cases h : j = k <;> simp [h]
theorem St.add_drop (S : St) {k : Nat} (o : Ob) (h : k < S.next) : (S.add o).drop k = (S.drop k).add o := by
  unfold St.add St.drop
  congr 1
  funext j
  by_cases h1 : j = k
  · subst h1
    simp
    omega
  · simp [h1]
theorem flat_append (l m : List D) : flat (l ++ m) = flat l ++ flat m := by simp [flat]
theorem ownOb_len {es zs : List D} {c z : Nat} (hw : ∀ d ∈ es, d.width = z) (hz : 0 < z) (h : (flat es ++ zs).length = c * z) : es.length ≤ c := by
  rw [List.length_append, dflat_length hw] at h
  rcases Nat.lt_or_ge c es.length with h' | h'
  · have : (c + 1) * z ≤ es.length * z := Nat.mul_le_mul_right _ h'
    rw [Nat.add_mul] at this
    omega
  · exact h'
theorem flat_take {es : List D} {z : Nat} (hw : ∀ d ∈ es, d.width = z) (q : Nat) : (flat es).take (q * z) = flat (es.take q) := by
  induction es generalizing q with
  | nil => simp [flat]
  | cons d es ih =>
    cases q with
    | zero => simp [flat]
    | succ q =>
      have h1 : d.cells.length = z := hw d (by simp)
      have h2 := ih (fun x hx => hw x (by simp [hx])) q
      have e1 : flat (d :: es) = d.cells ++ flat es := by simp [flat]
      have e2 : flat (d :: es.take q) = d.cells ++ flat (es.take q) := by simp [flat]
      rw [e1, List.take_succ_cons, e2, ← h2, List.take_append, h1, List.take_of_length_le (by rw [h1, Nat.add_mul]; omega)]
      congr 2
      rw [Nat.add_mul]; omega
theorem flat_drop {es : List D} {z : Nat} (hw : ∀ d ∈ es, d.width = z) (q : Nat) : (flat es).drop (q * z) = flat (es.drop q) := by
  induction es generalizing q with
  | nil => simp [flat]
  | cons d es ih =>
    cases q with
    | zero => simp
    | succ q =>
      have h1 : d.cells.length = z := hw d (by simp)
      have h2 := ih (fun x hx => hw x (by simp [hx])) q
      have e1 : flat (d :: es) = d.cells ++ flat es := by simp [flat]
      rw [e1, List.drop_succ_cons, ← h2, List.drop_append, h1, List.drop_of_length_le (by rw [h1, Nat.add_mul]; omega), List.nil_append]
      congr 1
      rw [Nat.add_mul]; omega
/-- A part of an owned slice as a source. -/
theorem srcOk_own {k c : Nat} {e : TypeId} {es zs : List D} {z : Nat} (hk : S.ob k = some (ownOb e es zs c)) (hc : es.length ≤ c) (hw : ∀ d ∈ es, d.width = z) {l n : Nat} (hq : l + n ≤ es.length) {c' : Nat} : SrcOk S z (.win k (l * z) n c') n (flat ((es.drop l).take n)) := by
  refine ⟨rfl, ?_⟩
  rcases Nat.eq_zero_or_pos c with rfl | h
  · have : es = [] := List.eq_nil_of_length_eq_zero (by omega)
    subst this
    have : n = 0 := by simp at hq; omega
    subst this
    exact .inl ⟨rfl, by simp [flat]⟩
  · rw [ownOb_box h] at hk
    have hf := dflat_length hw
    have hle : (l + n) * z ≤ es.length * z := Nat.mul_le_mul_right _ hq
    rw [Nat.add_mul] at hle
    refine .inr ⟨e, _, hk, ?_, ?_⟩
    · rw [List.length_append, hf]; omega
    · rw [List.drop_append_of_le_length (by rw [hf]; omega), List.take_append_of_le_length (by rw [List.length_drop, hf]; omega), flat_drop hw, flat_take fun d hd => hw d (List.mem_of_mem_drop hd)]
theorem srcOk_own0 {k c : Nat} {e : TypeId} {es zs : List D} {z : Nat} (hk : S.ob k = some (ownOb e es zs c)) (hc : es.length ≤ c) (hw : ∀ d ∈ es, d.width = z) {q : Nat} (hq : q ≤ es.length) {c' : Nat} : SrcOk S z (.win k 0 q c') q (flat (es.take q)) := by
  have := srcOk_own hk hc hw (l := 0) (n := q) (by omega) (c' := c')
  rwa [Nat.zero_mul, List.drop_zero] at this
theorem srcOk_ownA {k c : Nat} {e : TypeId} {es zs : List D} {z : Nat} (hk : S.ob k = some (ownOb e es zs c)) (hc : es.length ≤ c) (hw : ∀ d ∈ es, d.width = z) {c' : Nat} : SrcOk S z (.win k 0 es.length c') es.length (flat es) := by
  have := srcOk_own0 hk hc hw (Nat.le_refl _) (c' := c')
  rwa [List.take_of_length_le (Nat.le_refl _)] at this
theorem zeroT_pos {e : TypeId} (h : zeroT P e = true) : 0 < szOf P e ∧ (P.info? e).isSome = true := by
  obtain ⟨i, z, hi, _, _, hp, hs, _⟩ := zeroT_spec h
  exact ⟨by omega, by rw [hi]; rfl⟩
/-- Elements are appended to an owned slice. -/
theorem dappend_own {t tx ty e : TypeId} (he : elT P t = some e) (hx : (elT P tx).isSome = true) (hz : zeroT P e = true) (hz2 : zeroOk P e = true) {k c m : Nat} {es es2 zs : List D} {y : D} {K : D → St → Prop} (hk : S.ob k = some (ownOb e es zs c)) (hl : (flat es ++ zs).length = c * szOf P e) (hw1 : ∀ d ∈ es, d.width = szOf P e) (hs : SrcOk S (szOf P e) y m (flat es2)) (hm : m = es2.length)
    (hb : es.length + es2.length ≤ 140737488355328) (hby : (es.length + es2.length) * bytesOf P e ≤ 140737488355328) (hkn : k < S.next)
    (h : ∀ (c' : Nat) (zs' : List D), es.length + es2.length ≤ c' → (flat (es ++ es2) ++ zs').length = c' * szOf P e → K (.win S.next 0 (es.length + es2.length) c') ((S.drop k).add (ownOb e (es ++ es2) zs' c'))) : dappW P t tx ty (.win k 0 es.length c) y S K := by
  subst hm
  obtain ⟨hzp, hi⟩ := zeroT_pos hz
  have hc := ownOb_len hw1 hzp hl
  refine DRun.thaw ?_
  by_cases hroom : es.length + es2.length ≤ c
  · rcases Nat.eq_zero_or_pos c with rfl | hpos
    · have e1 : es = [] := List.eq_nil_of_length_eq_zero (by omega)
      have e2 : es2 = [] := List.eq_nil_of_length_eq_zero (by omega)
      subst e1 e2
      rw [ownOb_nil] at hk
      intro base η w vs hM hr
      simp only [RepL] at hr
      obtain ⟨x1, _, rfl, r1, x2, _, rfl, r2, rfl⟩ := hr
      obtain ⟨us, s1, s2⟩ := srcOk_at hM hs r2
      have hus : us = [] := List.eq_nil_of_length_eq_zero (by rw [s1.len]; simp)
      subst hus
      obtain ⟨i, hi⟩ := Option.isSome_iff_exists.1 hi
      have hsz : szOf P e = i.size := by simp [szOf, hi]
      obtain ⟨A, rfl, _⟩ := r1.win_slice
      have hsrc := s1.src hx
      rw [hsz] at hsrc
      refine ⟨_, S, η, _, w, run_append_nothing w t tx ty e i (elT_spec he) hi A _ _ (Nat.le_refl _) x2 hsrc, ?_, r1, Goes.refl hM⟩
      exact ⟨_, _, thaw_rename hk, h 0 [] (Nat.le_refl _) (by simp [flat])⟩
    · have hk' := hk
      rw [ownOb_box hpos] at hk'
      have hfl := dflat_length hw1
      refine dappend_in he hx hi hk' hs hroom hb (by rw [Nat.zero_add, hl]; exact Nat.mul_le_mul_right _ hroom) rfl ?_
      refine ⟨_, _, thaw_rename (o := .box e (splice (flat es ++ zs) (0 + es.length * szOf P e) (flat es2))) (by simp [St.set]), ?_⟩
      have hsp : splice (flat es ++ zs) (0 + es.length * szOf P e) (flat es2) = flat (es ++ es2) ++ zs.drop (es2.length * szOf P e) := by
        rw [Nat.zero_add, ← hfl, flat_append]
        unfold splice
        rw [List.take_append_of_le_length (Nat.le_refl _), List.take_of_length_le (Nat.le_refl _), List.drop_append, hs.length]
        simp
      have h2 := h c (zs.drop (es2.length * szOf P e)) hroom (by
        rw [← hsp, splice_len, hl]
        rw [Nat.zero_add, hs.length, hl, ← Nat.add_mul]
        exact Nat.mul_le_mul_right _ hroom)
      rw [ownOb_box hpos, ← hsp] at h2
      rw [St.set_drop]
      exact h2
  · refine dappend_new he hx hz hz2 (srcOk_ownA hk hc hw1) (fun _ _ _ _ e => by injection e with _ _ _ e; exact e.symm) (fun _ _ e => by cases e) hs (by omega) hb hby fun c' zs hc' hl' => ?_
    refine ⟨_, _, thaw_drop k _, ?_⟩
    rw [St.add_drop S _ hkn]
    have := h c' zs hc' (by rw [flat_append]; exact hl')
    rw [ownOb_box (by omega), flat_append] at this
    exact this
/-- Nothing is appended to: a new owned slice. -/
theorem dappend_fresh {t tx ty e : TypeId} (he : elT P t = some e) (hx : (elT P tx).isSome = true) (hz : zeroT P e = true) (hz2 : zeroOk P e = true) {m : Nat} {es2 : List D} {y : D} {K : D → St → Prop} (hs : SrcOk S (szOf P e) y m (flat es2)) (hm : m = es2.length)
    (hb : es2.length ≤ 140737488355328) (hby : es2.length * bytesOf P e ≤ 140737488355328)
    (h : ∀ (c' : Nat) (zs' : List D), es2.length ≤ c' → (flat es2 ++ zs').length = c' * szOf P e → K (.win S.next 0 es2.length c') (S.add (ownOb e es2 zs' c'))) : dappW P t tx ty (.sl .full []) y S K := by
  subst hm
  obtain ⟨hzp, hi⟩ := zeroT_pos hz
  rcases Nat.eq_zero_or_pos es2.length with h0 | hpos
  · have e2 : es2 = [] := List.eq_nil_of_length_eq_zero h0
    subst e2
    refine DRun.thaw ?_
    intro base η w vs hM hr
    simp only [RepL] at hr
    obtain ⟨x1, _, rfl, r1, x2, _, rfl, r2, rfl⟩ := hr
    obtain ⟨us, s1, s2⟩ := srcOk_at hM hs r2
    have hus : us = [] := List.eq_nil_of_length_eq_zero (by rw [s1.len]; simp)
    subst hus
    obtain ⟨i, hi⟩ := Option.isSome_iff_exists.1 hi
    have hsz : szOf P e = i.size := by simp [szOf, hi]
    have hsrc := s1.src hx
    rw [hsz] at hsrc
    have r1' := r1
    simp only [Rep, OwnAt] at r1'
    obtain ⟨A, c, rfl, _, _, rfl, _⟩ := r1'
    refine ⟨_, S, η, _, w, run_append_nothing w t tx ty e i (elT_spec he) hi A _ _ (Nat.le_refl _) x2 hsrc, ?_, r1, Goes.refl hM⟩
    exact ⟨_, _, thaw_nil e, h 0 [] (Nat.le_refl _) (by simp [flat])⟩
  · refine dappend_new he hx hz hz2 (n := 0) (c := 0) (olds := []) ⟨(fun _ hx => by cases hx), rfl, rfl⟩ (fun _ _ _ _ e => by cases e) (fun _ _ e => by injection e with e1 e2; subst e1 e2; exact ⟨rfl, rfl⟩) hs (by omega) (by omega) (by rw [Nat.zero_add]; exact hby) fun c' zs hc' hl' => ?_
    simp only [List.nil_append, Nat.zero_add] at hc' hl' ⊢
    have := h c' zs hc' hl'
    rw [ownOb_box (by omega)] at this
    exact this
end
end Go.Proofs.Ytjjhjhjphhpeiaa

/- Slices over variables of the call's own, further: zeros appended, cleared, made; two slices apart. Conditions: none. -/
namespace Go.Proofs.Ytjjhjhjphhpeiaa
open Go.RowKit

section
variable {P : Program} {base : Nat} {S : St} {η : Names} {w : World}
theorem run_append_zeros (w : World) (t tx ty e : TypeId) (i : TypeInfo) (z : Value) (kk : IntKind) (ht : P.underlying t = some (.slice e)) (hi : P.info? e = some i) (hz : i.zero = some z) (hx : P.underlying tx = some (.int kk)) (base : Option Addr) (sLen sCap : Nat) (olds : List Value)
    (hold : (Builtin.firstCells i.size sLen (.slice base sLen sCap)).run P w.drew = .ok olds.toArray w.drew) (m : Nat) (k : IntKind)
    (hg : sCap < sLen + m) (h63 : ((sLen + m : Nat) : Int) ≤ 9223372036854775807) (hfit : Builtin.nextslicecap (sLen + m) sCap * i.bytes ≤ 281474976710656) (hm : m * i.bytes ≤ 281474976710656) (hm0 : m * i.size ≠ 0) :
    (Builtin.append_ #[t, tx] ty #[.slice base sLen sCap, .int k m]).run P w =
      .ok (.slice (some ⟨w.heap.size, 0, none⟩) (sLen + m) (grownCap w (sLen + m) sCap e))
        (w.drew.alloc (.cells (olds.toArray ++ Builtin.zeroCells z.cells m ++ Builtin.zeroCells z.cells (grownCap w (sLen + m) sCap e - (sLen + m))) e)) := by
  have hn : ¬ (sLen + m ≤ sCap) := by omega
  have h63' : ¬ (9223372036854775807 < ((sLen : Int) + (m : Int))) := by omega
  have h48' : ¬ (281474976710656 < Builtin.nextslicecap (sLen + m) sCap * i.bytes) := by omega
  have hw : IntKind.i64.wrap (m : Int) = m := (by rw [IntKind.wrap_i64]; omega)
  have h0 : ¬ ((m : Int) < 0) := by omega
  have h1 : ¬ (281474976710656 < (m : Int) * (i.bytes : Int)) := by
    have : (m : Int) * (i.bytes : Int) = ((m * i.bytes : Nat) : Int) := by simp
    omega
  simp [Builtin.append_, run_underlying ht, run_underlying hx, sizeOf, typeInfo, zeroValue, hi, hz, asInt, asIntOf, hw, h0, h1, hn, h63', h48', Question.forced, hold, newRow, grownCap]
  intro h
  exact absurd h hm0
/-- Zeros are appended, more than there is room for. -/
theorem dappend_zeros {t tx ty e : TypeId} {kk : IntKind} (he : elT P t = some e) (hx : P.underlying tx = some (.int kk)) (hz : zeroT P e = true) (hz2 : zeroOk P e = true) {n c m : Nat} {k off : Nat} {olds : List D} {ik : IntKind} {K : D → St → Prop} (ho : SrcOk S (szOf P e) (.win k off n c) n olds)
    (hgrow : c < n + m) (hnc : n ≤ c) (hb : n + m ≤ 140737488355328) (hby : (n + m) * bytesOf P e ≤ 140737488355328)
    (h : ∀ (c' : Nat) (zs : List D), n + m ≤ c' → (olds ++ zs).length = c' * szOf P e → K (.win S.next 0 (n + m) c') (S.add (.box e (olds ++ zs)))) : dappW P t tx ty (.win k off n c) (.v (.int ik m)) S K := by
  intro base η w vs hM hr
  simp only [RepL] at hr
  obtain ⟨x1, _, rfl, r1, x2, _, rfl, r2, rfl⟩ := hr
  simp only [Rep] at r2
  subst r2
  obtain ⟨os, o1, o2⟩ := srcOk_at hM ho r1
  obtain ⟨i, z, hi, hzr, hzs, hpos, hsz, hbz⟩ := zeroT_spec hz
  obtain ⟨z2, i2, hi2, hz2r, _, hz1, _⟩ := zeroOk_spec hz2
  rw [hi] at hi2
  injection hi2 with hi2
  subst hi2
  rw [hzr] at hz2r
  injection hz2r with hz2r
  subst hz2r
  have hu := elT_spec he
  obtain ⟨A, e1, _⟩ := r1.win_slice
  subst e1
  have hso := o1.src (tx := t) (by rw [he]; rfl)
  rw [hsz] at hso
  have hcold := hso.cellsD
  have hmb : m * i.bytes ≤ 281474976710656 := by
    have : m * i.bytes ≤ (n + m) * i.bytes := Nat.mul_le_mul_right _ (Nat.le_add_left _ _)
    rw [hbz] at hby
    omega
  have hrun := run_append_zeros (P := P) w t tx ty e i z kk hu hi hzr hx A n c os hcold m ik hgrow (by omega) (growslice_fits hgrow (by rw [← hbz]; exact hby)) hmb (by
    have : 1 * 1 ≤ m * i.size := Nat.mul_le_mul (by omega) (by omega)
    omega)
  have G1 := goes_drew hM
  have hge := grownCap_ge w (n + m) c e
  have G3 := G1.trans (goes_name G1.mem (.box e (olds ++ ((Builtin.zeroCells z.cells m).toList ++ (Builtin.zeroCells z.cells (grownCap w (n + m) c e - (n + m))).toList).map ofV)) (os.toArray ++ Builtin.zeroCells z.cells m ++ Builtin.zeroCells z.cells (grownCap w (n + m) c e - (n + m))) e
    (.inl ⟨_, os ++ ((Builtin.zeroCells z.cells m).toList ++ (Builtin.zeroCells z.cells (grownCap w (n + m) c e - (n + m))).toList), rfl, by apply Array.ext'; simp, RepL.append (G1.repL o2) (zeroD_rep _), fun u hu' => (List.mem_append.1 hu').elim (o1.one u) fun hh => (List.mem_append.1 hh).elim (fun hh => hz1 u (zeroCells_mem hh)) fun hh => hz1 u (zeroCells_mem hh)⟩))
  refine ⟨_, _, _, _, _, hrun, h _ _ hge ?_, ?_, G3⟩
  · have e1 := size_zeroCells z.cells (grownCap w (n + m) c e - (n + m))
    have e2 := size_zeroCells z.cells m
    rw [← Array.length_toList] at e1 e2
    rw [List.length_append, List.length_map, List.length_append, ho.length, e1, e2, hzs, hsz, ← Nat.add_mul, ← Nat.add_mul]
    congr 1
    omega
  · simp only [Rep]
    exact .inl ⟨w.heap.size, by simp only [Names.add, ↓reduceIte]; rfl, rfl, hge, hb⟩
/-- A slice is cleared. -/
theorem dclear_win {t ty e : TypeId} (he : elT P t = some e) (hz : zeroT P e = true) (hz2 : zeroOk P e = true) {k off n c : Nat} {bt : TypeId} {cs : List D} {K : D → St → Prop} (hk : S.ob k = some (.box bt cs)) (hfit : off + n * szOf P e ≤ cs.length)
    (h : ∀ zs : List D, zs.length = n * szOf P e → K (.tup []) (S.set k (.box bt (splice cs off zs)))) : dclear P #[t] ty (.win k off n c) S K := by
  intro base η w vs hM hr
  simp only [RepL] at hr
  obtain ⟨x1, _, rfl, r1, rfl⟩ := hr
  obtain ⟨b, bs, rfl, hb, g1, g2, g3, g4, g5⟩ := win_live hM hk r1
  obtain ⟨i, z, hi, hzr, hzs, hpos, hsz, hbz⟩ := zeroT_spec hz
  obtain ⟨z2, i2, hi2, hz2r, _, hz1, _⟩ := zeroOk_spec hz2
  rw [hi] at hi2
  injection hi2 with hi2
  subst hi2
  rw [hzr] at hz2r
  injection hz2r with hz2r
  subst hz2r
  have hu := elT_spec he
  have hl := g2.length
  have e1 := size_zeroCells z.cells n
  rw [← Array.length_toList, hzs, ← hsz] at e1
  have h1 : ∀ u ∈ (Builtin.zeroCells z.cells n).toList, u.oneCell' = true := fun u hu => hz1 u (zeroCells_mem hu)
  have hst := run_storeCells_at P b off bt (Builtin.zeroCells z.cells n).toList 0 bs.toArray w g1 (by rw [Nat.add_zero, e1, List.size_toArray, hl]; exact hfit) h1
  simp only [Nat.add_zero] at hst
  have hml : ((Builtin.zeroCells z.cells n).toList.map ofV).length = n * szOf P e := by rw [List.length_map, e1]
  have G := goes_set hM hk hb (splice_len (off := off) (ds := (Builtin.zeroCells z.cells n).toList.map ofV) (by rw [hml]; exact hfit)) (splice_rep g2 (zeroD_rep _)) (one_splice g3 h1)
  refine ⟨_, _, η, .tuple #[], _, ?_, h _ hml, by simp only [Rep, RepL]; exact ⟨[], rfl, rfl⟩, G⟩
  cases n with
  | zero =>
    have : Builtin.zeroCells z.cells 0 = #[] := by simp [Builtin.zeroCells]
    simp only [this, List.append_nil, List.length_nil, Nat.add_zero, List.take_append_drop]
    have e0 : w.setRow b bs.toArray = w := setRow_self w b bs.toArray bt (0, 0) g1
    simp [Builtin.clear_, run_underlying hu, e0]
  | succ n => simp [Builtin.clear_, run_underlying hu, zeroValue, typeInfo, hi, hzr, hst]
/-- A slice is made. -/
theorem dmake_win {t e : TypeId} (he : elT P t = some e) (hz : zeroT P e = true) (hz2 : zeroOk P e = true) {n : Nat} {ik ik' : IntKind} {K : D → St → Prop} (hb : n ≤ 140737488355328) (hby : n * bytesOf P e ≤ 140737488355328)
    (h : K (.win S.next 0 n n) (S.add (.box e (List.replicate n (zeroD P e)).flatten))) : dmakeS P t (.v (.int ik n)) (.v (.int ik' n)) S K := by
  intro base η w vs hM hr
  simp only [RepL, Rep] at hr
  obtain ⟨x1, _, rfl, rfl, x2, _, rfl, rfl, rfl⟩ := hr
  obtain ⟨i, z, hi, hzr, hzs, hpos, hsz, hbz⟩ := zeroT_spec hz
  obtain ⟨z2, i2, hi2, hz2r, hzd, hz1, hzl⟩ := zeroOk_spec hz2
  rw [hi] at hi2
  injection hi2 with hi2
  subst hi2
  rw [hzr] at hz2r
  injection hz2r with hz2r
  subst hz2r
  have hu := elT_spec he
  have hw : IntKind.i64.wrap (n : Int) = n := (by rw [IntKind.wrap_i64]; omega)
  rw [hbz] at hby
  have h1 : ¬ (281474976710656 < (i.bytes : Int) * (n : Int)) := by
    have : (i.bytes : Int) * (n : Int) = ((n * i.bytes : Nat) : Int) := by rw [Nat.mul_comm]; simp
    omega
  have hrow : ∀ n : Nat, ((Array.range (n * i.size)).map fun j => (if n * i.size = 0 then #[] else z.cells)[j % (if n * i.size = 0 then #[] else z.cells).size]!) = ((List.replicate n z.cells.toList).flatten).toArray := fun n => by
    apply Array.ext'
    rw [Array.toList_map]
    apply List.ext_getElem?
    intro j
    rw [List.getElem?_map]
    by_cases hj : j < n * i.size
    · have h0 : n * i.size ≠ 0 := by omega
      rw [if_neg h0, hzs]
      have e1 : (Array.range (n * i.size)).toList[j]? = some j := by rw [Array.getElem?_toList]; simp [hj]
      rw [e1]
      have hlt : j % i.size < z.cells.size := by rw [hzs]; exact Nat.mod_lt _ hpos
      have : ((List.replicate n z.cells.toList).flatten)[j]? = z.cells.toList[j % i.size]? := by
        clear e1 h0 h1 hw
        induction n generalizing j with
        | zero => omega
        | succ n ih =>
          rw [List.replicate_succ, List.flatten_cons]
          have hlz : z.cells.toList.length = i.size := by rw [Array.length_toList, hzs]
          by_cases hj2 : j < i.size
          · rw [List.getElem?_append_left (by omega), Nat.mod_eq_of_lt hj2]
          · rw [List.getElem?_append_right (by omega), hlz, ih (j - i.size) (by rw [Nat.add_mul] at hj; omega) (by rw [← Nat.mod_eq_sub_mod (by omega)]; exact hlt), ← Nat.mod_eq_sub_mod (by omega)]
      show some _ = _
      simp only [this]
      rw [Array.getElem?_toList, Array.getElem?_eq_getElem hlt]
      simp [hlt]
    · have e1 : (Array.range (n * i.size)).toList[j]? = none := by rw [Array.getElem?_toList]; simp; omega
      rw [e1]
      have : ((List.replicate n z.cells.toList).flatten).length = n * i.size := by rw [List.length_flatten]; simp [hzs]
      rw [Option.map_none, List.getElem?_eq_none (by show _ ≤ _; simp only []; omega)]
  have G := goes_name hM (.box e (List.replicate n (zeroD P e)).flatten) ((List.replicate n z.cells.toList).flatten).toArray e
    (.inl ⟨_, (List.replicate n z.cells.toList).flatten, rfl, rfl, by
      rw [hzd]
      clear h h1 hw hby hb
      induction n with
      | zero => simp [RepL]
      | succ n ih =>
        rw [List.replicate_succ, List.replicate_succ, List.flatten_cons, List.flatten_cons]
        exact RepL.append (zeroD_rep _) ih, fun u hu => by
      obtain ⟨l, hl, hu⟩ := List.mem_flatten.1 hu
      rw [List.eq_of_mem_replicate hl] at hu
      exact hz1 u hu⟩)
  refine ⟨_, _, _, .slice (some ⟨w.heap.size, 0, none⟩) n n, _, ?_, h, by simp only [Rep]; exact .inl ⟨w.heap.size, by simp only [Names.add, ↓reduceIte], rfl, Nat.le_refl _, hb⟩, G⟩
  have h0 : ¬ ((n : Int) < 0) := by omega
  rw [← hrow n]
  by_cases hn : n = 0
  · subst hn
    have w0 : IntKind.i64.wrap 0 = 0 := rfl
    simp [Instr.makeSlice, run_underlying hu, asInt, asIntOf, typeInfo, hi, w0, sizeOf, zeroValue, hzr, newRow]
  · have hn' : n * i.size ≠ 0 := by
      have : 1 * 1 ≤ n * i.size := Nat.mul_le_mul (by omega) (by omega)
      omega
    have hn2 : ¬ (n = 0 ∨ i.size = 0) := by omega
    simp [Instr.makeSlice, run_underlying hu, asInt, asIntOf, typeInfo, hi, hw, h1, h0, sizeOf, zeroValue, hzr, newRow, hn', hn2]
/-- Two slices that lie apart. -/
theorem doverlaps {g : FuncId} {fn : Func} {t e : TypeId} {tr : TypeId} (hf : P.funcs[g]? = some fn) (hname : (fn.name == "runtime.NumGoroutine") = false) (hb : fn.body.isNone = true) (hn : Extern.findNext fn = none) (hx : Extern.find fn = some (Extern.SlicesOverlaps.overlaps #[t, t] #[tr]))
    (he : elT P t = some e) (hi : (P.info? e).isSome = true) {o : Own} {es : List D} {k off n c : Nat} {bt : TypeId} {cs : List D} (hk : S.ob k = some (.box bt cs)) (hcs : cs ≠ []) {K : D → St → Prop} (h : K (.v (.bool false)) S) : DCalls P g [.sl o es, .win k off n c] S K := by
  intro base η w vs hM hr
  simp only [RepL] at hr
  obtain ⟨x1, _, rfl, r1, x2, _, rfl, r2, rfl⟩ := hr
  obtain ⟨b, bs, rfl, hbb, g1, g2, g3, g4, g5⟩ := win_live hM hk r2
  obtain ⟨i, hi⟩ := Option.isSome_iff_exists.1 hi
  have hu := elT_spec he
  refine .inr ⟨.v (.bool false), S, η, .bool false, w, ?_, h, by simp only [Rep], Goes.refl hM⟩
  rw [run_callFunc_extern hf hname hb hn hx]
  simp only [Rep] at r1
  obtain ⟨A, cap, rfl, h2, h3, h4, h5⟩ := r1
  have hshb : w.shape? b = some (bt, bs.length) := by simp [World.shape?, g1]
  have hbl : bs.length ≠ 0 := by rw [g2.length]; exact fun h => hcs (List.eq_nil_of_length_eq_zero h)
  have hfb : ∀ x, w.frozen? ⟨b, x, none⟩ = false := fun x => by simp [World.frozen?, g1]
  have key : ((Extern.SlicesOverlaps.overlaps #[t, t] #[tr] #[.slice A es.length cap, .slice (some ⟨b, off, none⟩) n c]).run P w) = .ok (.bool false) w := by
    change Sem.run P (α := Value) (do
      let some t := (#[t, t] : Array TypeId)[0]? | stuck "slices.overlaps: no parameter types"
      let .slice elem ← underlying t | stuck "slices.overlaps: slice type expected"
      let size ← sizeOf elem
      match A, (some ⟨b, off, none⟩ : Option Addr) with
      | some a, some b =>
        if es.length = 0 ∨ n = 0 ∨ size = 0 then pure (Value.bool false)
        else if a.block != b.block && (← frozen a) && (← frozen b) then unsupported .addressObserved
        else do
          if a.block != b.block then do
            noView a; noView b
            if ← mayBeOne a b then return Value.bool ((← choose (.extern "sameAddr.stringBytes" 2)) == 1)
          pure (Value.bool (a.block == b.block && a.off < b.off + n * size && b.off < a.off + es.length * size))
      | _, _ => pure (Value.bool false)) w = _
    rcases Nat.eq_zero_or_pos es.length with h0 | h0
    · cases A with
      | none => simp [run_underlying hu, sizeOf, typeInfo, hi]
      | some a => simp [run_underlying hu, sizeOf, typeInfo, hi, h0]
    · obtain ⟨b', o', z, rfl, hz, hE⟩ := h5 h0
      obtain ⟨d, hd⟩ : ∃ d, es[0]? = some d := ⟨_, List.getElem?_eq_getElem h0⟩
      have hel := (RepE.get 0 hE hd).cells
      simp only [Nat.zero_mul, Nat.add_zero] at hel
      have hcell : Fix P S η b' o' ∧ ∃ x, w.cell? ⟨b', o', none⟩ = some x := by
        cases hdc : d.cells with
        | nil => exfalso; have := hel.1; rw [D.width, hdc] at this; simp at this; omega
        | cons y l =>
          have := hel.2
          rw [hdc] at this
          simp only [RepC] at this
          exact ⟨this.1.1, _, this.1.2.choose_spec.1⟩
      obtain ⟨hfix, x, hx⟩ := hcell
      have hne : b' ≠ b := fun e => by subst e; exact hfix k _ hbb hk
      have hsh : ∃ te kA, w.shape? b' = some (te, kA + 1) := by
        unfold World.cell? at hx
        unfold World.shape?
        simp only at hx ⊢
        split at hx
        · rename_i cc tt ff hh
          have : o' < cc.size := by
            simp only [Option.isSome_none, Bool.false_eq_true, if_false] at hx
            exact (Array.getElem?_eq_some_iff.1 hx).1
          exact ⟨tt, cc.size - 1, by congr 2; omega⟩
        · cases hx
      obtain ⟨te, kA, hsh⟩ := hsh
      have hnb : (b' != b) = true := by simpa using hne
      have hnb' : (b' == b) = false := by simpa using hne
      by_cases h0' : n = 0 ∨ i.size = 0
      · have : es.length = 0 ∨ n = 0 ∨ i.size = 0 := .inr h0'
        simp [run_underlying hu, sizeOf, typeInfo, hi]
        intro _ a1 a2
        exact absurd h0' (by simp [a1, a2])
      · have h00 : ¬ (es.length = 0 ∨ n = 0 ∨ i.size = 0) := by omega
        cases hz1 : w.frozen? ⟨b', o', none⟩ <;> cases hz2 : w.frozen? ⟨b', kA + 1, none⟩ <;>
          simp [run_underlying hu, sizeOf, typeInfo, hi, hnb, hnb', frozen, noView, viewAt, mayBeOne, stringish, shape, Sem.run, hsh, hshb, hfb, hz1, hz2, hbl]
  show ((Extern.SlicesOverlaps.overlaps #[t, t] #[tr] #[.slice A es.length cap, .slice (some ⟨b, off, none⟩) n c]).run P w).andThen _ = _
  rw [key]
  rfl
theorem splice_at {B C X : List D} {o : Nat} (ho : o = B.length) : splice (B ++ C) o X = B ++ X ++ C.drop X.length := by
  subst ho
  unfold splice
  rw [List.take_append_of_le_length (Nat.le_refl _), List.take_of_length_le (Nat.le_refl _), List.drop_append, List.drop_of_length_le (by omega), List.nil_append]
  congr 2
  omega
theorem ins_new {B C X zs : List D} {o o' : Nat} (ho : o = B.length) (ho' : o' = B.length + X.length) : splice (splice (B ++ zs) o X) o' C = B ++ X ++ C ++ zs.drop (X.length + C.length) := by
  rw [splice_at ho, splice_at (B := B ++ X) (by rw [List.length_append]; exact ho'), List.drop_drop]
theorem ins_old {B C X zs : List D} {o o' : Nat} (ho : o = B.length) (ho' : o' = B.length + X.length) (hl : X.length ≤ zs.length) : splice (splice (B ++ C ++ zs) o' C) o X = B ++ X ++ C ++ zs.drop X.length := by
  have e : B ++ C ++ zs = (B ++ C ++ zs).take (B.length + X.length) ++ (B ++ C ++ zs).drop (B.length + X.length) := (List.take_append_drop _ _).symm
  have hl1 : ((B ++ C ++ zs).take (B.length + X.length)).length = B.length + X.length := by rw [List.length_take]; simp; omega
  have h1 : splice (B ++ C ++ zs) o' C = (B ++ C ++ zs).take (B.length + X.length) ++ C ++ zs.drop X.length := by
    rw [e, splice_at (ho'.trans hl1.symm), ← e, List.drop_drop, List.drop_append (l₁ := B ++ C), List.drop_of_length_le (by simp only [List.length_append]; omega), List.nil_append]
    congr 2
    simp only [List.length_append]
    omega
  rw [h1]
  have e2 : (B ++ C ++ zs).take (B.length + X.length) = B ++ (C ++ zs).take X.length := by
    rw [List.append_assoc, List.take_append, List.take_of_length_le (by omega)]
    congr 2
    omega
  have hl2 : ((C ++ zs).take X.length).length = X.length := by rw [List.length_take]; simp; omega
  rw [e2, List.append_assoc, List.append_assoc, splice_at ho]
  rw [List.drop_append, List.drop_of_length_le (by omega), List.nil_append, hl2, Nat.sub_self, List.drop_zero]
  try simp
/-- An owned slice, or nothing yet. -/
def OwnD (P : Program) (S : St) (e : TypeId) (es : List D) (d : D) : Prop := (es = [] ∧ d = .sl .full []) ∨ ∃ k c zs, d = .win k 0 es.length c ∧ S.ob k = some (ownOb e es zs c) ∧ (flat es ++ zs).length = c * szOf P e ∧ k < S.next
def St.left (S : St) : D → St
  | .win k _ _ _ => S.drop k
  | _ => S
/-- Appended to an owned slice, or to nothing. -/
theorem dapp_ownD {t tx ty e : TypeId} (he : elT P t = some e) (hx : (elT P tx).isSome = true) (hz : zeroT P e = true) (hz2 : zeroOk P e = true) {d : D} {es es2 : List D} {o2 : Own} {K : D → St → Prop} (hd : OwnD P S e es d) (hw1 : ∀ d ∈ es, d.width = szOf P e) (hw2 : ∀ d ∈ es2, d.width = szOf P e)
    (hb : es.length + es2.length ≤ 140737488355328) (hby : (es.length + es2.length) * bytesOf P e ≤ 140737488355328)
    (h : ∀ (c' : Nat) (zs' : List D), (flat (es ++ es2) ++ zs').length = c' * szOf P e → K (.win S.next 0 (es.length + es2.length) c') ((S.left d).add (ownOb e (es ++ es2) zs' c'))) : dapp P S t tx ty d (.sl o2 es2) K := by
  rcases hd with ⟨rfl, rfl⟩ | ⟨k, c, zs, rfl, hk, hl, hkn⟩
  · refine dapp_nil he (dappend_fresh he hx hz hz2 (srcOk_sl hw2) rfl (by simpa using hb) (by simpa using hby) fun c' zs' _ h2 => ?_)
    have := h c' zs' (by simpa using h2)
    simpa [St.left] using this
  · rw [dapp_atw]
    exact dappend_own he hx hz hz2 hk hl hw1 (srcOk_sl hw2) rfl hb hby hkn fun c' zs' _ h2 => h c' zs' h2
theorem OwnD.mono {T T' : St} {e : TypeId} {es : List D} {d : D} (hd : OwnD P T e es d) (hs : T.Sub T') : OwnD P T' e es d := by
  rcases hd with h | ⟨k, c, zs, h1, h2, h3, h4⟩
  · exact .inl h
  · exact .inr ⟨k, c, zs, h1, hs.ob _ _ h2, h3, Nat.lt_of_lt_of_le h4 hs.next⟩
theorem OwnD.sub {S0 T : St} (hS : S0.WF) (hs : S0.Sub T) {e : TypeId} {es : List D} {d : D} (hd : OwnD P T e es d) (hlo : ∀ k o n c, d = .win k o n c → S0.next ≤ k) : S0.Sub (T.left d) := by
  rcases hd with ⟨_, rfl⟩ | ⟨k, c, zs, rfl, _⟩
  · exact hs
  · exact ⟨hs.next, fun j o hj => by
      have h1 := hS.lt hj
      have h2 := hlo _ _ _ _ rfl
      show (if j = k then none else T.ob j) = some o
      rw [if_neg (by omega)]
      exact hs.ob j o hj⟩
theorem left_next (T : St) (d : D) : (T.left d).next = T.next := by cases d <;> rfl
theorem St.WF.left {T : St} (h : T.WF) (d : D) : (T.left d).WF := by
  cases d with
  | win k o n c => exact h.drop k
  | _ => exact h
/-- At a call's end: nothing, as an owned slice. -/
theorem OwnD.win {e : TypeId} {es : List D} {d : D} (hd : OwnD P S e es d) : ∃ S1 k c zs, Thaw P S d S1 (.win k 0 es.length c) ∧ (S1 = S ∨ S1 = S.add (.row e 0)) ∧ S1.ob k = some (ownOb e es zs c) ∧ (flat es ++ zs).length = c * szOf P e ∧ k < S1.next ∧ ((∃ o n c', d = .win k o n c') ∨ k = S.next) := by
  rcases hd with ⟨rfl, rfl⟩ | ⟨k, c, zs, rfl, h1, h2, h3⟩
  · exact ⟨_, S.next, 0, [], thaw_nil e, .inr rfl, by simp [St.add, ownOb_nil], by simp [flat], by simp [St.add], .inr rfl⟩
  · exact ⟨S, k, c, zs, Thaw.refl _ _ _, .inl rfl, h1, h2, h3, .inl ⟨_, _, _, rfl⟩⟩
end
end Go.Proofs.Ytjjhjhjphhpeiaa

/- A call walked where it stands; loops unrolled. Conditions: none. -/
namespace Go.Proofs.Ytjjhjhjphhpeiaa
open Go.RowKit
/-- The end of a call that is walked where it stands. -/
def DQ.inl (P : Program) (rs : List ResultVar) (K : D → St → Prop) : DQ
  | .exit _, _, _ => False
  | _, f, S' => dresL P f S' rs fun ds => K (one ds) S'
theorem dcalls_inline {P : Program} (hm : P.follows .mixedOrders = true) {g : FuncId} {fn : Func} {c : Code} (hf : P.funcs[g]? = some fn) (hb : fn.body = some c) (hent : ∀ vs w, (callFunc g vs).run P w = .ok (.enter g vs) w) {rs : List ResultVar} (hrs : fn.results.toList = rs) {args : List D} (hok : (codeOk fn.ntmps c && fn.results.all (resOk fn.ntmps) && Nat.ble args.length fn.ntmps) = true) {S : St} {K : D → St → Prop}
    (h : S.WF → dwp P c (DQ.inl P rs K) (argF args) S) : DCalls P g args S K := by
  subst hrs
  intro base η w vs hM hr
  refine .inl ⟨hent _ _, ?_⟩
  simp only [Bool.and_eq_true] at hok
  obtain ⟨⟨hok1, hok2⟩, hok3⟩ := hok
  have hlen : args.length ≤ fn.ntmps := Nat.le_of_ble_eq_true hok3
  have hl := hr.length
  have hsz : (vs.toArray ++ Array.replicate (fn.ntmps - vs.toArray.size) undef).size = fn.ntmps := by simp; omega
  refine calls_of_wp hf hb ?_
  refine dwp_sound hm c (a := { tmps := vs.toArray ++ Array.replicate (fn.ntmps - vs.toArray.size) undef, defers := [] }) (by rw [hsz]; exact hok1) hM (fun t ht => ?_) (h hM.fresh) fun e f' S' η' w' a' k1 k2 k3 k4 k5 => ?_
  · rw [hsz] at ht
    simp only [argF]
    by_cases h1 : t < vs.length
    · obtain ⟨x, hx, hr'⟩ := hr.get t (List.getElem?_eq_getElem (by omega : t < args.length))
      have e1 : args.getD t undefD = args[t] := by rw [List.getD_eq_getElem?_getD, List.getElem?_eq_getElem (by omega : t < args.length)]; rfl
      have e2 : (vs.toArray ++ Array.replicate (fn.ntmps - vs.toArray.size) undef).getD t undef = x := by
        rw [Array.getD_eq_getD_getElem?, Array.getElem?_append_left (by simpa using h1)]
        simp [hx]
      rw [e1, e2]
      exact hr'
    · have e1 : args.getD t undefD = undefD := by rw [List.getD_eq_getElem?_getD, List.getElem?_eq_none (by omega)]; rfl
      have e2 : (vs.toArray ++ Array.replicate (fn.ntmps - vs.toArray.size) undef).getD t undef = undef := by
        rw [Array.getD_eq_getD_getElem?, Array.getElem?_append_right (by simpa using h1)]
        rw [Array.getElem?_replicate]
        split <;> rfl
      rw [e1, e2]
      simp only [Rep, RepL]
      exact ⟨[], rfl, rfl⟩
  · have hsz' : a'.tmps.size = fn.ntmps := by rw [k4]; exact hsz
    have hd' : a'.defers = [] := k5
    have fin : dresL P f' S' fn.results.toList (fun ds => K (one ds) S') → a'.defers = [] ∧ ∃ v, (results fn a'.tmps).run P w' = .ok v w' ∧ ∃ d S'' η'' u, K d S'' ∧ Ending.returned v = .returned u ∧ Rep P w' η'' (Fix P S'' η'') d u ∧ Goes P base S η w S'' η'' w' := fun hres => by
      obtain ⟨ds, v, hk, q7, q8⟩ := results_sound k2.mem k3 (by rw [hsz']; exact hok2) hres
      exact ⟨hd', v, q8, one ds, S', η', v, hk, rfl, q7, k2⟩
    cases e with
    | normal => exact fin k1
    | ret => exact fin k1
    | exit i => exact k1.elim
section
variable {P : Program} {S : St} {f : Fm} {K : D → St → Prop}
theorem inl_ret (t : Tmp) (S' : St) : DQ.inl P [.tmp t] K .ret f S' = K (f t) S' := by simp [DQ.inl, dresL, dres, onVal, one]
theorem inl_normal (t : Tmp) (S' : St) : DQ.inl P [.tmp t] K .normal f S' = K (f t) S' := by simp [DQ.inl, dresL, dres, onVal, one]
theorem inl_ret2 (t u : Tmp) (S' : St) : DQ.inl P [.tmp t, .tmp u] K .ret f S' = K (.tup [f t, f u]) S' := by simp [DQ.inl, dresL, dres, onVal, one]
theorem inl_normal2 (t u : Tmp) (S' : St) : DQ.inl P [.tmp t, .tmp u] K .normal f S' = K (.tup [f t, f u]) S' := by simp [DQ.inl, dresL, dres, onVal, one]
theorem inl_ret0 (S' : St) : DQ.inl P [] K .ret f S' = K undefD S' := by simp [DQ.inl, dresL, one]
theorem inl_normal0 (S' : St) : DQ.inl P [] K .normal f S' = K undefD S' := by simp [DQ.inl, dresL, one]
end
theorem inl_cell_normal {P : Program} {f : Fm} {K : D → St → Prop} (x : Tmp) (t : TypeId) (S' : St) : DQ.inl P [.cell x t] K .normal f S' = dcellR P S' t (f x) (fun r => K r S') := onVal_cell x t _
theorem inl_cell_ret {P : Program} {f : Fm} {K : D → St → Prop} (x : Tmp) (t : TypeId) (S' : St) : DQ.inl P [.cell x t] K .ret f S' = dcellR P S' t (f x) (fun r => K r S') := onVal_cell x t _
attribute [go_sem] inl_cell_normal inl_cell_ret
attribute [go_sem] inl_ret inl_normal inl_ret2 inl_normal2 inl_ret0 inl_normal0
/-- So many rounds at most. -/
def loopN (P : Program) (c : Code) (Q : DQ) : Nat → Fm → St → Prop
  | 0, _, _ => False
  | n + 1, f, S => dwp P c (DQ.then (loopN P c Q n) Q) f S
theorem dloop_fuel {P : Program} {c : Code} {Q : DQ} {f : Fm} {S : St} (n : Nat) (hS : S.WF) (hc : wrOk (fun _ => true) c = true) (h : loopN P c Q n f S) : DLoop (dwp P c) Q f S := by
  refine dloop_down (fun _ => true) hc hS (fun m g T => loopN P c Q m g T) n h fun m g T hT _ hI => ?_
  cases m with
  | zero => exact hI.elim
  | succ m =>
    refine dwp_mono c (fun e f2 S2 hq => ?_) hI
    cases e with
    | normal => exact ⟨m, S2.ob, by omega, fun _ _ h => h, hq⟩
    | exit i => exact hq
    | ret => exact hq
theorem loopN_eq {P : Program} {c : Code} {Q : DQ} {f : Fm} {S : St} (n : Nat) : loopN P c Q (n + 1) f S = dwp P c (DQ.then (loopN P c Q n) Q) f S := Eq.trans (Eq.refl _) (Eq.refl _)
end Go.Proofs.Ytjjhjhjphhpeiaa

/- Longest common lists, walked: the program's row. Conditions: lengths at most 1000. -/
namespace Go.Proofs.Ytjjhjhjphhpeiaa
open Go.RowKit
set_option linter.unusedSimpArgs false
def intD (n : Nat) : D := .v (.int .i64 (n : Int))
/-- The program's row, in round i behind k steps. -/
def rowP (a b : List Nat) (i k : Nat) : List D := (List.range (b.length + 1)).map fun j => intD (if j ≤ k then preL a b (i + 1) j else preL a b i j)
theorem rowP_len (a b : List Nat) (i k : Nat) : (rowP a b i k).length = b.length + 1 := by simp [rowP]
theorem rowP_get {a b : List Nat} {i k j : Nat} (h : j < b.length + 1) : (rowP a b i k).getD j undefD = intD (if j ≤ k then preL a b (i + 1) j else preL a b i j) := by
  rw [List.getD_eq_getElem?_getD, rowP, List.getElem?_map, List.getElem?_range h]; rfl
theorem rowP_next (a b : List Nat) (i : Nat) : rowP a b i b.length = rowP a b (i + 1) 0 := by
  unfold rowP
  refine List.map_congr_left fun j hj => ?_
  rw [List.mem_range] at hj
  rw [if_pos (by omega)]
  split
  · rename_i h
    obtain rfl : j = 0 := by omega
    rw [preL_zero', preL_zero']
  · rfl
theorem rowP_start (a b : List Nat) : rowP a b 0 0 = List.replicate (b.length + 1) (intD 0) := by
  refine List.ext_getElem (by simp [rowP]) fun j h1 h2 => ?_
  rw [rowP_len] at h1
  simp only [rowP, List.getElem_map, List.getElem_range, List.getElem_replicate]
  split
  · rename_i h
    obtain rfl : j = 0 := by omega
    rw [preL_zero']
  · rw [preL_zero]
theorem rowP_set {a b : List Nat} {i k n : Nat} (h : k < b.length) (hn : n = preL a b (i + 1) (k + 1)) : (rowP a b i k).take (k + 1) ++ [intD n] ++ (rowP a b i k).drop (k + 1 + 1) = rowP a b i (k + 1) := by
  subst hn
  refine List.ext_getElem ?_ fun j h1 h2 => ?_
  · simp only [List.length_append, List.length_take, List.length_drop, rowP_len, List.length_cons, List.length_nil]; omega
  · rw [rowP_len] at h2
    simp only [rowP, List.getElem_map, List.getElem_range]
    by_cases c1 : j < k + 1
    · rw [List.getElem_append_left (by simp; omega), List.getElem_append_left (by simp; omega)]
      simp only [List.getElem_take, List.getElem_map, List.getElem_range]
      rw [if_pos (by omega), if_pos (by omega)]
    · by_cases c2 : j = k + 1
      · subst c2
        rw [List.getElem_append_left (by simp; omega), List.getElem_append_right (by simp; omega)]
        simp
      · rw [List.getElem_append_right (by simp; omega)]
        simp only [List.getElem_drop, List.getElem_map, List.getElem_range, List.length_append, List.length_take, List.length_map, List.length_range, List.length_cons, List.length_nil]
        rw [if_neg (by omega), if_neg (by omega)]
        congr 2
        omega
set_option maxRecDepth 200000 in
set_option maxHeartbeats 8000000 in
theorem common_d (own own2 : Own) (a b : List Nat) (ha : a.length ≤ 1000) (hb : b.length ≤ 1000) : DPure Try.prog 17 [.sl own (a.map u64D), .sl own2 (b.map u64D)] (intD (lcs a b)) := by
  refine dpure_of_dwp mixed Try.func17 rfl (fun _ _ => by kernel_rfl) (rs := [.tmp 4]) rfl (by kernel_rfl) trivial (fun S hS => ?_)
  have w0 : IntKind.i64.wrap ((b.length : Int) + 1) = ((b.length + 1 : Nat) : Int) := IntWalk.i64_in _ ⟨by omega, by omega⟩
  have heI : elT Try.prog 70 = some 3 := by kernel_rfl
  have hzI : zeroT Try.prog 3 = true := by kernel_rfl
  have hbI : bytesOf Try.prog 3 = 8 := by kernel_rfl
  have hzD : zeroD Try.prog 3 = [intD 0] := by kernel_rfl
  (simp (disch := first | decide | omega | (simp only [add_next, set_next, grow_next, leave_next, drop_next, List.length_map]; first | done | omega)) only [go_sem, ↓reduceIte, Nat.reduceBEq, Nat.reduceAdd, Nat.reduceLeDiff, Nat.reduceEqDiff, Nat.reduceLT, Nat.reduceMul, w0]; (repeat (with_reducible refine And.intro (by first | omega | assumption | rfl) ?_)))
  refine dmake_win heI hzI (by kernel_rfl) (by omega) (by rw [hbI]; omega) ?_
  have e0 : (List.replicate (b.length + 1) (zeroD Try.prog 3)).flatten = rowP a b 0 0 := by
    rw [hzD, rowP_start]
    generalize b.length + 1 = n
    induction n with
    | zero => rfl
    | succ n ih => rw [List.replicate_succ, List.flatten_cons, ih]; rfl
  rw [e0]
  (simp (disch := first | decide | omega | (simp only [add_next, set_next, grow_next, leave_next, drop_next, List.length_map]; first | done | omega)) only [go_sem, ↓reduceIte, Nat.reduceBEq, Nat.reduceAdd, Nat.reduceLeDiff, Nat.reduceEqDiff, Nat.reduceLT, Nat.reduceMul, w0]; (repeat (with_reducible refine And.intro (by first | omega | assumption | rfl) ?_)))
  (refine dloop_var (fun t => List.contains [7, 8, 9, 10, 11, 18, 19, 20, 21, 22, 23, 24, 25, 26, 27, 28, 29, 30, 31, 32, 33, 34, 35, 36, 37, 38, 39, 40, 41, 42, 43, 44, 45, 46, 47, 48, 49, 50, 51, 52, 53, 54, 55, 56, 57, 58, 59] t) (by kernel_rfl) ?_ (a.length) (S.next) (fun i => .box 3 (rowP a b i 0)) ?_ (fun i f => i ≤ a.length ∧ f 18 = .v (.int .i64 (i : Nat))) ?_ ?_; (exact (by (repeat' first | assumption | refine St.WF.leave ?_ _ | refine St.WF.add ?_ _ | refine St.WF.set ?_ ?_ _ | refine St.WF.grow ?_ _ _ _ | refine St.WF.keep ?_ ?_ | (first | omega | (simp only [RowOk.lo, add_next, set_next, grow_next, leave_next, drop_next]; first | done | omega))))); (exact (by (first | (simp (disch := first | decide | omega | (simp only [add_next, set_next, grow_next, leave_next, drop_next, List.length_map]; first | done | omega)) only [go_sem, ↓reduceIte, Nat.reduceBEq, Nat.reduceAdd, Nat.reduceLeDiff, Nat.reduceEqDiff, Nat.reduceLT, Nat.reduceMul]; first | done | rfl) | rfl))); (exact ⟨(by omega), (by (first | (simp (disch := first | decide | omega | (simp only [add_next, set_next, grow_next, leave_next, drop_next, List.length_map]; first | done | omega)) only [go_sem, ↓reduceIte, Nat.reduceBEq, Nat.reduceAdd, Nat.reduceLeDiff, Nat.reduceEqDiff, Nat.reduceLT, Nat.reduceMul]; first | done | rfl) | rfl))⟩); intro i g tn hn hT hg hI; obtain ⟨le, q18⟩ := hI; have q1 := hg 1 rfl; have q4 := hg 4 rfl; have q5 := hg 5 rfl; have q16 := hg 16 rfl; have q17 := hg 17 rfl; simp (disch := first | decide | omega | (simp only [add_next, set_next, grow_next, leave_next, drop_next, List.length_map]; first | done | omega)) only [go_sem, ↓reduceIte, Nat.reduceBEq, Nat.reduceAdd, Nat.reduceLeDiff, Nat.reduceEqDiff, Nat.reduceLT, Nat.reduceMul] at q1 q4 q5 q16 q17; clear hg; have hn' := hn; try simp only [add_next, set_next, grow_next, leave_next, drop_next] at hn')
  by_cases hlt : i < a.length
  · have b1 : decide ((i : Int) < (a.length : Int)) = true := by simp; omega
    have w1 : IntKind.i64.wrap ((i : Int) + 1) = ((i + 1 : Nat) : Int) := IntWalk.i64_in _ ⟨by omega, by omega⟩
    (simp (disch := first | decide | omega | (simp only [add_next, set_next, grow_next, leave_next, drop_next, List.length_map]; first | done | omega)) only [go_sem, ↓reduceIte, Nat.reduceBEq, Nat.reduceAdd, Nat.reduceLeDiff, Nat.reduceEqDiff, Nat.reduceLT, Nat.reduceMul, q1, q5, q16, q17, q18, b1]; (repeat (with_reducible refine And.intro (by first | omega | assumption | rfl) ?_)))
    have hvs : ∀ k, (S.next = k) → k < tn := fun k e => by omega
    (refine dloop_var (fun t => List.contains [8, 9, 10, 11, 24, 25, 26, 27, 28, 29, 30, 31, 32, 33, 34, 35, 36, 37, 38, 39, 40, 41, 42, 43, 44, 45, 46, 47, 48, 49, 50, 51, 52, 53, 54, 55, 56, 57, 58] t) (by kernel_rfl) ?_ (b.length) (S.next) (fun k => .box 3 (rowP a b i k)) ?_ (fun ib f => ib ≤ b.length ∧ f 24 = .v (.int .i64 (ib : Nat)) ∧ f 8 = intD (preL a b i ib)) ?_ ?_; (exact (by (repeat' first | assumption | refine St.WF.leave ?_ _ | refine St.WF.add ?_ _ | refine St.WF.set ?_ ?_ _ | refine St.WF.grow ?_ _ _ _ | refine St.WF.keep ?_ ?_ | (first | omega | (simp only [RowOk.lo, add_next, set_next, grow_next, leave_next, drop_next]; first | done | omega))))); (exact (by (first | (simp (disch := first | decide | omega | (simp only [add_next, set_next, grow_next, leave_next, drop_next, List.length_map]; first | done | omega)) only [go_sem, ↓reduceIte, Nat.reduceBEq, Nat.reduceAdd, Nat.reduceLeDiff, Nat.reduceEqDiff, Nat.reduceLT, Nat.reduceMul]; first | done | rfl) | rfl))); (exact ⟨(by omega), (by (first | (simp (disch := first | decide | omega | (simp only [add_next, set_next, grow_next, leave_next, drop_next, List.length_map]; first | done | omega)) only [go_sem, ↓reduceIte, Nat.reduceBEq, Nat.reduceAdd, Nat.reduceLeDiff, Nat.reduceEqDiff, Nat.reduceLT, Nat.reduceMul, preL_zero', intD, q1, q4, q5, q16, q17, q18]; first | done | rfl) | rfl)), (by (first | (simp (disch := first | decide | omega | (simp only [add_next, set_next, grow_next, leave_next, drop_next, List.length_map]; first | done | omega)) only [go_sem, ↓reduceIte, Nat.reduceBEq, Nat.reduceAdd, Nat.reduceLeDiff, Nat.reduceEqDiff, Nat.reduceLT, Nat.reduceMul, preL_zero', intD, q1, q4, q5, q16, q17, q18]; first | done | rfl) | rfl))⟩); intro ib gb tnb hnb hTb hgb hIb; obtain ⟨leb, q24b, q8b⟩ := hIb; have q1b := hgb 1 rfl; have q4b := hgb 4 rfl; have q5b := hgb 5 rfl; have q7b := hgb 7 rfl; have q18b := hgb 18 rfl; have q22b := hgb 22 rfl; have q23b := hgb 23 rfl; simp (disch := first | decide | omega | (simp only [add_next, set_next, grow_next, leave_next, drop_next, List.length_map]; first | done | omega)) only [go_sem, ↓reduceIte, Nat.reduceBEq, Nat.reduceAdd, Nat.reduceLeDiff, Nat.reduceEqDiff, Nat.reduceLT, Nat.reduceMul, preL_zero', intD, q1, q4, q5, q16, q17, q18] at q1b q4b q5b q7b q18b q22b q23b; clear hgb; have hnb' := hnb; try simp only [add_next, set_next, grow_next, leave_next, drop_next] at hnb')
    by_cases hltb : ib < b.length
    · have b1b : decide ((ib : Int) < (b.length : Int)) = true := by simp; omega
      have w1b : IntKind.i64.wrap ((ib : Int) + 1) = ((ib + 1 : Nat) : Int) := IntWalk.i64_in _ ⟨by omega, by omega⟩
      have hp := lcs_bound (a.take i).reverse (b.take ib).reverse
      have hpb : preL a b i ib ≤ 1000 := by
        have := hp.1
        simp only [List.length_reverse, List.length_take] at this
        unfold preL
        omega
      have wp : IntKind.i64.wrap ((preL a b i ib : Int) + 1) = ((preL a b i ib + 1 : Nat) : Int) := IntWalk.i64_in _ ⟨by omega, by omega⟩
      have g1 := rowP_get (a := a) (i := i) (k := ib) (j := ib + 1) (b := b) (by omega)
      have g0 := rowP_get (a := a) (i := i) (k := ib) (j := ib) (b := b) (by omega)
      have gl := rowP_len a b i ib
      rw [if_neg (by omega)] at g1
      rw [if_pos (Nat.le_refl _)] at g0
      by_cases hx : a[i] = b[ib]
      · have b2 : ((a[i] : Int) == (b[ib] : Int)) = true := by simp [hx]
        have hs := rowP_set (i := i) hltb (n := preL a b i ib + 1) (by rw [preL_step hlt hltb, if_pos hx])
        have hn8 : preL a b i (ib + 1) = preL a b i (ib + 1) := rfl
        (simp (disch := first | decide | omega | (simp only [add_next, set_next, grow_next, leave_next, drop_next, List.length_map]; first | done | omega)) only [go_sem, ↓reduceIte, Nat.reduceBEq, Nat.reduceAdd, Nat.reduceLeDiff, Nat.reduceEqDiff, Nat.reduceLT, Nat.reduceMul, q1b, q5b, q7b, q8b, q22b, q23b, q24b, b1b, w1b, b2, g1, wp, intD, u64D, gl, Nat.mul_one]; (repeat (with_reducible refine And.intro (by first | omega | assumption | rfl) ?_)))
        (refine ⟨by omega, St.Sub.upd hnb (congrArg (Ob.box 3) hs.symm) (by (repeat' first | assumption | exact St.Sub.refl _ | exact RowOk.sub (by assumption) (by assumption) | refine St.Sub.trans ?_ (RowOk.sub (by assumption) (by assumption)) | refine St.Sub.add ?_ ?_ _ | refine St.Sub.set ?_ ?_ ?_ _ | refine St.Sub.keep ?_ ?_ | refine St.WF.leave ?_ _ | refine St.WF.add ?_ _ | refine St.WF.set ?_ ?_ _ | refine St.WF.grow ?_ _ _ _ | refine St.WF.keep ?_ ?_ | (first | omega | (simp only [RowOk.lo, add_next, set_next, grow_next, leave_next, drop_next]; first | done | omega)))), ?_⟩; refine ⟨by omega, ?_, ?_⟩; all_goals (try (first | (simp (disch := first | decide | omega | (simp only [add_next, set_next, grow_next, leave_next, drop_next, List.length_map]; first | done | omega)) only [go_sem, ↓reduceIte, Nat.reduceBEq, Nat.reduceAdd, Nat.reduceLeDiff, Nat.reduceEqDiff, Nat.reduceLT, Nat.reduceMul, w1b, intD]; first | done | rfl) | rfl)))
      · have b2 : ((a[i] : Int) == (b[ib] : Int)) = false := by simp; omega
        (simp (disch := first | decide | omega | (simp only [add_next, set_next, grow_next, leave_next, drop_next, List.length_map]; first | done | omega)) only [go_sem, ↓reduceIte, Nat.reduceBEq, Nat.reduceAdd, Nat.reduceLeDiff, Nat.reduceEqDiff, Nat.reduceLT, Nat.reduceMul, q1b, q5b, q7b, q8b, q22b, q23b, q24b, b1b, w1b, b2, g1, wp, intD, u64D, gl]; (repeat (with_reducible refine And.intro (by first | omega | assumption | rfl) ?_)))
        refine ddraw_mk 14 (by kernel_rfl) ?_
        have hs := rowP_set (i := i) hltb (n := max (preL a b i (ib + 1)) (preL a b (i + 1) ib)) (by rw [preL_step hlt hltb, if_neg hx])
        have hmx : (if (preL a b i (ib + 1) : Int) < (preL a b (i + 1) ib : Int) then (preL a b (i + 1) ib : Int) else (preL a b i (ib + 1) : Int)) = ((max (preL a b i (ib + 1)) (preL a b (i + 1) ib) : Nat) : Int) := by split <;> omega
        (simp (disch := first | decide | omega | (simp only [add_next, set_next, grow_next, leave_next, drop_next, List.length_map]; first | done | omega)) only [go_sem, ↓reduceIte, Nat.reduceBEq, Nat.reduceAdd, Nat.reduceLeDiff, Nat.reduceEqDiff, Nat.reduceLT, Nat.reduceMul, q1b, q5b, q7b, q8b, q22b, q23b, q24b, b1b, w1b, b2, g1, g0, wp, intD, u64D, gl, Nat.mul_one, hmx]; (repeat (with_reducible refine And.intro (by first | omega | assumption | rfl) ?_)))
        (refine ⟨by omega, St.Sub.upd hnb (congrArg (Ob.box 3) hs.symm) (by (repeat' first | assumption | exact St.Sub.refl _ | exact RowOk.sub (by assumption) (by assumption) | refine St.Sub.trans ?_ (RowOk.sub (by assumption) (by assumption)) | refine St.Sub.add ?_ ?_ _ | refine St.Sub.set ?_ ?_ ?_ _ | refine St.Sub.keep ?_ ?_ | refine St.WF.leave ?_ _ | refine St.WF.add ?_ _ | refine St.WF.set ?_ ?_ _ | refine St.WF.grow ?_ _ _ _ | refine St.WF.keep ?_ ?_ | (first | omega | (simp only [RowOk.lo, add_next, set_next, grow_next, leave_next, drop_next]; first | done | omega)))), ?_⟩; refine ⟨by omega, ?_, ?_⟩; all_goals (try (first | (simp (disch := first | decide | omega | (simp only [add_next, set_next, grow_next, leave_next, drop_next, List.length_map]; first | done | omega)) only [go_sem, ↓reduceIte, Nat.reduceBEq, Nat.reduceAdd, Nat.reduceLeDiff, Nat.reduceEqDiff, Nat.reduceLT, Nat.reduceMul, w1b, intD]; first | done | rfl) | rfl)))
    · have b1b : decide ((ib : Int) < (b.length : Int)) = false := by simp; omega
      have hib : ib = b.length := by omega
      (simp (disch := first | decide | omega | (simp only [add_next, set_next, grow_next, leave_next, drop_next, List.length_map]; first | done | omega)) only [go_sem, ↓reduceIte, Nat.reduceBEq, Nat.reduceAdd, Nat.reduceLeDiff, Nat.reduceEqDiff, Nat.reduceLT, Nat.reduceMul, q22b, q23b, q24b, b1b, q18b, w1]; (repeat (with_reducible refine And.intro (by first | omega | assumption | rfl) ?_)))
      refine ⟨by omega, St.Sub.upd (X := ⟨tnb, _⟩) (B := Ob.box 3 (rowP a b i ib)) (tn := tn) (b := Ob.box 3 (rowP a b i 0)) hn (congrArg (Ob.box 3) (by rw [hib, rowP_next])) ?_, by omega, by (first | (simp (disch := first | decide | omega | (simp only [add_next, set_next, grow_next, leave_next, drop_next, List.length_map]; first | done | omega)) only [go_sem, ↓reduceIte, Nat.reduceBEq, Nat.reduceAdd, Nat.reduceLeDiff, Nat.reduceEqDiff, Nat.reduceLT, Nat.reduceMul, w1]; first | done | rfl) | rfl)⟩
      exact ⟨hnb', fun _ _ h => h⟩
  · have b1 : decide ((i : Int) < (a.length : Int)) = false := by simp; omega
    have hi : i = a.length := by omega
    have g1 := rowP_get (a := a) (i := i) (k := 0) (j := b.length) (b := b) (by omega)
    have gl := rowP_len a b i 0
    (simp (disch := first | decide | omega | (simp only [add_next, set_next, grow_next, leave_next, drop_next, List.length_map]; first | done | omega)) only [go_sem, ↓reduceIte, Nat.reduceBEq, Nat.reduceAdd, Nat.reduceLeDiff, Nat.reduceEqDiff, Nat.reduceLT, Nat.reduceMul, q1, q4, q5, q16, q17, q18, b1, g1, gl, Nat.mul_one]; (repeat (with_reducible refine And.intro (by first | omega | assumption | rfl) ?_)))
    refine ⟨?_, (by (repeat' first | assumption | exact St.Sub.refl _ | exact RowOk.sub (by assumption) (by assumption) | refine St.Sub.trans ?_ (RowOk.sub (by assumption) (by assumption)) | refine St.Sub.add ?_ ?_ _ | refine St.Sub.set ?_ ?_ ?_ _ | refine St.Sub.keep ?_ ?_ | refine St.WF.leave ?_ _ | refine St.WF.add ?_ _ | refine St.WF.set ?_ ?_ _ | refine St.WF.grow ?_ _ _ _ | refine St.WF.keep ?_ ?_ | (first | omega | (simp only [RowOk.lo, add_next, set_next, grow_next, leave_next, drop_next]; first | done | omega))))⟩
    have hz : preL a b a.length b.length = lcs a b := preL_all a b
    split
    · rename_i h0
      have : b = [] := List.eq_nil_of_length_eq_zero (by omega)
      subst this
      rw [show (([] : List Nat)).length = 0 from rfl, preL_zero', lcs_nil']; rfl
    · rw [hi, hz]; rfl
end Go.Proofs.Ytjjhjhjphhpeiaa

/- Longest common lists, walked: the document's table. Conditions: lengths at most 1000. -/
namespace Go.Proofs.Ytjjhjhjphhpeiaa
open Go.RowKit
set_option linter.unusedSimpArgs false
/-- The document's row i, where the last u places are done. -/
def rowS (a b : List Nat) (i u : Nat) : List D := (List.range (b.length + 1)).map fun j => intD (if b.length ≤ j + u then sufL a b i j else 0)
theorem rowS_len (a b : List Nat) (i u : Nat) : (rowS a b i u).length = b.length + 1 := by simp [rowS]
theorem rowS_get {a b : List Nat} {i u j : Nat} (h : j < b.length + 1) (hu : b.length ≤ j + u) : (rowS a b i u).getD j undefD = intD (sufL a b i j) := by
  rw [List.getD_eq_getElem?_getD, rowS, List.getElem?_map, List.getElem?_range h]
  simp only [Option.map_some, Option.getD_some]
  rw [if_pos hu]
theorem rowS_start (a b : List Nat) (i : Nat) : rowS a b i 0 = List.replicate (b.length + 1) (intD 0) := by
  refine List.ext_getElem (by simp [rowS]) fun j h1 h2 => ?_
  rw [rowS_len] at h1
  simp only [rowS, List.getElem_map, List.getElem_range, List.getElem_replicate]
  split
  · rw [sufL_end (.inr (by omega))]
  · rfl
theorem rowS_end (a b : List Nat) : rowS a b a.length 0 = rowS a b a.length b.length := by
  refine List.ext_getElem (by simp [rowS]) fun j h1 h2 => ?_
  simp only [rowS, List.getElem_map, List.getElem_range]
  rw [sufL_end (.inl (Nat.le_refl _))]
  simp
theorem rowS_set {a b : List Nat} {i u k n : Nat} (h : k + 1 + u = b.length) (hn : n = sufL a b i k) : (rowS a b i u).set k (intD n) = rowS a b i (u + 1) := by
  subst hn
  refine List.ext_getElem (by simp [rowS]) fun j h1 h2 => ?_
  rw [rowS_len] at h2
  rw [List.getElem_set]
  simp only [rowS, List.getElem_map, List.getElem_range]
  split
  · rename_i e
    subst e
    rw [if_pos (by omega)]
  · by_cases c : b.length ≤ j + u
    · rw [if_pos c, if_pos (by omega)]
    · rw [if_neg c, if_neg (by omega)]
theorem set_cells (l : List D) (k : Nat) (x : D) (h : k < l.length) : l.take k ++ [x] ++ l.drop (k + 1) = l.set k x := by
  rw [List.set_eq_take_append_cons_drop, if_pos h]; simp
set_option maxRecDepth 200000 in
set_option maxHeartbeats 8000000 in
theorem refCommon_d (own own2 : Own) (a b : List Nat) (ha : a.length ≤ 1000) (hb : b.length ≤ 1000) : DPure Try.prog 18 [.sl own (a.map u64D), .sl own2 (b.map u64D)] (intD (lcs a b)) := by
  refine dpure_of_dwp mixed Try.func18 rfl (fun _ _ => by kernel_rfl) (rs := [.tmp 4]) rfl (by kernel_rfl) trivial (fun S hS => ?_)
  have wa : IntKind.i64.wrap ((a.length : Int) + 1) = ((a.length + 1 : Nat) : Int) := IntWalk.i64_in _ ⟨by omega, by omega⟩
  have wb : IntKind.i64.wrap ((b.length : Int) + 1) = ((b.length + 1 : Nat) : Int) := IntWalk.i64_in _ ⟨by omega, by omega⟩
  have heI : elT Try.prog 70 = some 3 := by kernel_rfl
  have hzI : zeroT Try.prog 3 = true := by kernel_rfl
  have hbI : bytesOf Try.prog 3 = 8 := by kernel_rfl
  have hzD : zeroD Try.prog 3 = [intD 0] := by kernel_rfl
  have heR : elT Try.prog 71 = some 70 := by kernel_rfl
  have hzR : zeroT Try.prog 70 = true := by kernel_rfl
  have hbR : bytesOf Try.prog 70 = 24 := by kernel_rfl
  have hzDR : zeroD Try.prog 70 = [.sl .full []] := by kernel_rfl
  (simp (disch := first | decide | omega | (simp only [add_next, set_next, grow_next, leave_next, drop_next, List.length_map]; first | done | omega)) only [go_sem, ↓reduceIte, Nat.reduceBEq, Nat.reduceAdd, Nat.reduceLeDiff, Nat.reduceEqDiff, Nat.reduceLT, Nat.reduceMul, wa]; (repeat (with_reducible refine And.intro (by first | omega | assumption | rfl) ?_)))
  refine dmake_win heR hzR (by kernel_rfl) (by omega) (by rw [hbR]; omega) ?_
  obtain ⟨cs0, hcs0⟩ : ∃ cs0, (List.replicate (a.length + 1) (zeroD Try.prog 70)).flatten = cs0 := ⟨_, rfl⟩
  have hcl0 : cs0.length = a.length + 1 := by rw [← hcs0, hzDR]; simp
  rw [hcs0]
  (simp (disch := first | decide | omega | (simp only [add_next, set_next, grow_next, leave_next, drop_next, List.length_map]; first | done | omega)) only [go_sem, ↓reduceIte, Nat.reduceBEq, Nat.reduceAdd, Nat.reduceLeDiff, Nat.reduceEqDiff, Nat.reduceLT, Nat.reduceMul, wa]; (repeat (with_reducible refine And.intro (by first | omega | assumption | rfl) ?_)))
  refine dloop_up (fun t => List.contains [6, 7, 14, 15, 16, 17, 18, 19, 20, 21, 22, 23, 24, 25, 26, 27, 28, 29, 30, 31, 32, 33, 34, 35, 36, 37, 38, 39, 40, 41, 42, 43, 44, 45, 46, 47, 48, 49, 50, 51, 52, 53, 54, 55, 56, 57, 58, 59, 60, 61, 62, 63, 64, 65, 66, 67, 68, 69, 70, 71, 72, 73, 74, 75, 76, 77, 78, 79, 80, 81, 82, 83, 84, 85, 86, 87, 88, 89, 90, 91, 92, 93] t) (by kernel_rfl) (by exact (by (repeat' first | assumption | refine St.WF.leave ?_ _ | refine St.WF.add ?_ _ | refine St.WF.set ?_ ?_ _ | refine St.WF.grow ?_ _ _ _ | refine St.WF.keep ?_ ?_ | (first | omega | (simp only [RowOk.lo, add_next, set_next, grow_next, leave_next, drop_next]; first | done | omega))))) (a.length + 1) (fun t g T => t ≤ a.length + 1 ∧ g 6 = .v (.int .i64 ((a.length : Int) - (t : Int))) ∧ (∃ cs, cs.length = a.length + 1 ∧ T.ob S.next = some (.box 70 cs) ∧ (0 < t → ∃ k1, cs.getD (a.length + 1 - t) undefD = .win k1 0 (b.length + 1) (b.length + 1) ∧ T.ob k1 = some (.box 3 (rowS a b (a.length + 1 - t) b.length)) ∧ S.next < k1 ∧ k1 < T.next)) ∧ S.next < T.next ∧ S.Sub T)
    ⟨by omega, by (first | (simp (disch := first | decide | omega | (simp only [add_next, set_next, grow_next, leave_next, drop_next, List.length_map]; first | done | omega)) only [go_sem, ↓reduceIte, Nat.reduceBEq, Nat.reduceAdd, Nat.reduceLeDiff, Nat.reduceEqDiff, Nat.reduceLT, Nat.reduceMul]; first | done | rfl) | rfl), ⟨cs0, hcl0, by (first | (simp (disch := first | decide | omega | (simp only [add_next, set_next, grow_next, leave_next, drop_next, List.length_map]; first | done | omega)) only [go_sem, ↓reduceIte, Nat.reduceBEq, Nat.reduceAdd, Nat.reduceLeDiff, Nat.reduceEqDiff, Nat.reduceLT, Nat.reduceMul]; first | done | rfl) | rfl), fun h => absurd h (by omega)⟩, by simp only [add_next]; omega, by exact (by (repeat' first | assumption | exact St.Sub.refl _ | exact RowOk.sub (by assumption) (by assumption) | refine St.Sub.trans ?_ (RowOk.sub (by assumption) (by assumption)) | refine St.Sub.add ?_ ?_ _ | refine St.Sub.set ?_ ?_ ?_ _ | refine St.Sub.keep ?_ ?_ | refine St.WF.leave ?_ _ | refine St.WF.add ?_ _ | refine St.WF.set ?_ ?_ _ | refine St.WF.grow ?_ _ _ _ | refine St.WF.keep ?_ ?_ | (first | omega | (simp only [RowOk.lo, add_next, set_next, grow_next, leave_next, drop_next]; first | done | omega))))⟩ ?_
  rintro t g T hT hg ⟨le, q6, ⟨cs, hcl, hB, hrow⟩, hn, hs⟩
  (have q0 := hg 0 rfl; have q1 := hg 1 rfl; have q4 := hg 4 rfl; have q5 := hg 5 rfl; simp (disch := first | decide | omega | (simp only [add_next, set_next, grow_next, leave_next, drop_next, List.length_map]; first | done | omega)) only [go_sem, ↓reduceIte, Nat.reduceBEq, Nat.reduceAdd, Nat.reduceLeDiff, Nat.reduceEqDiff, Nat.reduceLT, Nat.reduceMul] at q0 q1 q4 q5; clear hg)
  by_cases hlt : t ≤ a.length
  · obtain ⟨i, hi⟩ : ∃ i, i + t = a.length := ⟨a.length - t, by omega⟩
    have e6 : (a.length : Int) - (t : Int) = (i : Int) := by omega
    have b1 : decide ((0 : Int) ≤ (i : Int)) = true := by simp
    rw [e6] at q6
    (simp (disch := first | decide | omega | (simp only [add_next, set_next, grow_next, leave_next, drop_next, List.length_map]; first | done | omega)) only [go_sem, ↓reduceIte, Nat.reduceBEq, Nat.reduceAdd, Nat.reduceLeDiff, Nat.reduceEqDiff, Nat.reduceLT, Nat.reduceMul, q0, q1, q5, q6, b1, wb]; (repeat (with_reducible refine And.intro (by first | omega | assumption | rfl) ?_)))
    refine dmake_win heI hzI (by kernel_rfl) (by omega) (by rw [hbI]; omega) ?_
    have e0 : (List.replicate (b.length + 1) (zeroD Try.prog 3)).flatten = rowS a b i 0 := by
      rw [hzD, rowS_start]
      generalize b.length + 1 = n
      induction n with
      | zero => rfl
      | succ n ih => rw [List.replicate_succ, List.flatten_cons, ih]; rfl
    rw [e0]
    have hil : i < cs.length := by omega
    have wl : IntKind.i64.wrap ((b.length : Int) - 1) = (b.length : Int) - 1 := IntWalk.i64_in _ ⟨by omega, by omega⟩
    have hsc := set_cells cs i (.win T.next 0 (b.length + 1) (b.length + 1)) hil
    (simp (disch := first | decide | omega | (simp only [add_next, set_next, grow_next, leave_next, drop_next, List.length_map]; first | done | omega)) only [go_sem, ↓reduceIte, Nat.reduceBEq, Nat.reduceAdd, Nat.reduceLeDiff, Nat.reduceEqDiff, Nat.reduceLT, Nat.reduceMul, q0, q1, q5, q6, wb, hB, hcl, Nat.mul_one, wl]; (repeat (with_reducible refine And.intro (by first | omega | assumption | rfl) ?_)))
    rw [hsc]
    obtain ⟨cs1, hcs1⟩ : ∃ cs1, cs.set i (.win T.next 0 (b.length + 1) (b.length + 1)) = cs1 := ⟨_, rfl⟩
    have hcl1 : cs1.length = a.length + 1 := by rw [← hcs1, List.length_set, hcl]
    have hg0 : cs1.getD i undefD = .win T.next 0 (b.length + 1) (b.length + 1) := by rw [← hcs1]; simp [List.getD_eq_getElem?_getD, hil]
    have hg1 : cs1.getD (i + 1) undefD = cs.getD (i + 1) undefD := by rw [← hcs1]; simp [List.getD_eq_getElem?_getD, List.getElem?_set]
    rw [hcs1]
    have hsn := hs.next
    refine dloop_up (fun t => List.contains [7, 28, 29, 30, 31, 32, 33, 34, 35, 36, 37, 38, 39, 40, 41, 42, 43, 44, 45, 46, 47, 48, 49, 50, 51, 52, 53, 54, 55, 56, 57, 58, 59, 60, 61, 62, 63, 64, 65, 66, 67, 68, 69, 70, 71, 72, 73, 74, 75, 76, 77, 78, 79, 80, 81, 82, 83, 84, 85, 86, 87, 88, 89, 90, 91, 92, 93] t) (by kernel_rfl) (by exact (by (repeat' first | assumption | refine St.WF.leave ?_ _ | refine St.WF.add ?_ _ | refine St.WF.set ?_ ?_ _ | refine St.WF.grow ?_ _ _ _ | refine St.WF.keep ?_ ?_ | (first | omega | (simp only [RowOk.lo, add_next, set_next, grow_next, leave_next, drop_next]; first | done | omega))))) b.length (fun u g2 T2 => u ≤ b.length ∧ (t = 0 → u = 0) ∧ g2 7 = .v (.int .i64 ((b.length : Int) - 1 - (u : Int))) ∧ T2.ob S.next = some (.box 70 cs1) ∧ T2.ob T.next = some (.box 3 (rowS a b i u)) ∧ (0 < t → ∃ k1, cs.getD (i + 1) undefD = .win k1 0 (b.length + 1) (b.length + 1) ∧ T2.ob k1 = some (.box 3 (rowS a b (i + 1) b.length)) ∧ S.next < k1 ∧ k1 < T.next) ∧ T.next + 1 ≤ T2.next ∧ S.Sub T2)
      ⟨by omega, fun _ => rfl, by simp (disch := first | decide | omega | (simp only [add_next, set_next, grow_next, leave_next, drop_next, List.length_map]; first | done | omega)) only [go_sem, ↓reduceIte, Nat.reduceBEq, Nat.reduceAdd, Nat.reduceLeDiff, Nat.reduceEqDiff, Nat.reduceLT, Nat.reduceMul]; rw [show (b.length : Int) - 1 - 0 = (b.length : Int) - 1 by omega], by (first | (simp (disch := first | decide | omega | (simp only [add_next, set_next, grow_next, leave_next, drop_next, List.length_map]; first | done | omega)) only [go_sem, ↓reduceIte, Nat.reduceBEq, Nat.reduceAdd, Nat.reduceLeDiff, Nat.reduceEqDiff, Nat.reduceLT, Nat.reduceMul]; first | done | rfl) | rfl), by (first | (simp (disch := first | decide | omega | (simp only [add_next, set_next, grow_next, leave_next, drop_next, List.length_map]; first | done | omega)) only [go_sem, ↓reduceIte, Nat.reduceBEq, Nat.reduceAdd, Nat.reduceLeDiff, Nat.reduceEqDiff, Nat.reduceLT, Nat.reduceMul]; first | done | rfl) | rfl), fun h => ?_, by simp (disch := first | decide | omega | (simp only [add_next, set_next, grow_next, leave_next, drop_next, List.length_map]; first | done | omega)) only [go_sem, ↓reduceIte, Nat.reduceBEq, Nat.reduceAdd, Nat.reduceLeDiff, Nat.reduceEqDiff, Nat.reduceLT, Nat.reduceMul]; omega, ?_⟩ ?_
    · obtain ⟨k1, h1, h2, h3, h4⟩ := hrow h
      have e1 : a.length + 1 - t = i + 1 := by omega
      rw [e1] at h1 h2
      exact ⟨k1, h1, by (first | (simp (disch := first | decide | omega | (simp only [add_next, set_next, grow_next, leave_next, drop_next, List.length_map]; first | done | omega)) only [go_sem, ↓reduceIte, Nat.reduceBEq, Nat.reduceAdd, Nat.reduceLeDiff, Nat.reduceEqDiff, Nat.reduceLT, Nat.reduceMul, h2]; first | done | rfl) | rfl), h3, h4⟩
    · exact (hs.add hS _).set hS (Nat.le_refl _) _
    rintro u g2 T2 hT2 hgb ⟨leu, hu0, q7, hB2, h02, hrow2, hn2, hs2⟩
    (have q0b := hgb 0 rfl; have q1b := hgb 1 rfl; have q4b := hgb 4 rfl; have q5b := hgb 5 rfl; have q6b := hgb 6 rfl; simp (disch := first | decide | omega | (simp only [add_next, set_next, grow_next, leave_next, drop_next, List.length_map]; first | done | omega)) only [go_sem, ↓reduceIte, Nat.reduceBEq, Nat.reduceAdd, Nat.reduceLeDiff, Nat.reduceEqDiff, Nat.reduceLT, Nat.reduceMul, q0, q1, q4, q5, q6] at q0b q1b q4b q5b q6b; clear hgb)
    have e61 : (i : Int) - 1 = (a.length : Int) - ((t + 1 : Nat) : Int) := by omega
    have ei : a.length + 1 - (t + 1) = i := by omega
    have w6 : IntKind.i64.wrap ((i : Int) - 1) = (i : Int) - 1 := IntWalk.i64_in _ ⟨by omega, by omega⟩
    by_cases ht : t = 0
    · have b3 : decide ((i : Int) < (a.length : Int)) = false := by simp; omega
      have hu := hu0 ht
      subst hu
      have hfin : T2.ob T.next = some (.box 3 (rowS a b i b.length)) := by
        rw [h02, show i = a.length by omega, rowS_end]
      by_cases hlb : b.length = 0
      · have b2 : decide ((0 : Int) ≤ (b.length : Int) - 1 - 0) = false := by simp; omega
        (simp (disch := first | decide | omega | (simp only [add_next, set_next, grow_next, leave_next, drop_next, List.length_map]; first | done | omega)) only [go_sem, ↓reduceIte, Nat.reduceBEq, Nat.reduceAdd, Nat.reduceLeDiff, Nat.reduceEqDiff, Nat.reduceLT, Nat.reduceMul, q0b, q6b, q7, b2, b3, w6]; (repeat (with_reducible refine And.intro (by first | omega | assumption | rfl) ?_)))
        refine ⟨by omega, T2.ob, fun _ _ h => h, by omega, by simp (disch := first | decide | omega | (simp only [add_next, set_next, grow_next, leave_next, drop_next, List.length_map]; first | done | omega)) only [go_sem, ↓reduceIte, Nat.reduceBEq, Nat.reduceAdd, Nat.reduceLeDiff, Nat.reduceEqDiff, Nat.reduceLT, Nat.reduceMul, e61], ⟨cs1, hcl1, hB2, fun _ => ⟨T.next, by rw [ei]; exact hg0, by rw [ei]; exact hfin, hn, by show T.next < T2.next; omega⟩⟩, by show S.next < T2.next; omega, hs2⟩
      · have b2 : decide ((0 : Int) ≤ (b.length : Int) - 1 - 0) = true := by simp; omega
        (simp (disch := first | decide | omega | (simp only [add_next, set_next, grow_next, leave_next, drop_next, List.length_map]; first | done | omega)) only [go_sem, ↓reduceIte, Nat.reduceBEq, Nat.reduceAdd, Nat.reduceLeDiff, Nat.reduceEqDiff, Nat.reduceLT, Nat.reduceMul, q0b, q6b, q7, b2, b3, w6]; (repeat (with_reducible refine And.intro (by first | omega | assumption | rfl) ?_)))
        refine ⟨by omega, T2.ob, fun _ _ h => h, by omega, by simp (disch := first | decide | omega | (simp only [add_next, set_next, grow_next, leave_next, drop_next, List.length_map]; first | done | omega)) only [go_sem, ↓reduceIte, Nat.reduceBEq, Nat.reduceAdd, Nat.reduceLeDiff, Nat.reduceEqDiff, Nat.reduceLT, Nat.reduceMul, e61], ⟨cs1, hcl1, hB2, fun _ => ⟨T.next, by rw [ei]; exact hg0, by rw [ei]; exact hfin, hn, by show T.next < T2.next; omega⟩⟩, by show S.next < T2.next; omega, hs2⟩
    · obtain ⟨k1, h1, h2, h3, h4⟩ := hrow2 (by omega)
      rw [h1] at hg1
      have b3 : decide ((i : Int) < (a.length : Int)) = true := by simp; omega
      by_cases hlu : u < b.length
      · obtain ⟨k, hk⟩ : ∃ k, k + 1 + u = b.length := ⟨b.length - 1 - u, by omega⟩
        have e7 : (b.length : Int) - 1 - (u : Int) = (k : Int) := by omega
        have b2 : decide ((0 : Int) ≤ (k : Int)) = true := by simp
        rw [e7] at q7
        have wi : IntKind.i64.wrap ((i : Int) + 1) = ((i + 1 : Nat) : Int) := IntWalk.i64_in _ ⟨by omega, by omega⟩
        have wk : IntKind.i64.wrap ((k : Int) + 1) = ((k + 1 : Nat) : Int) := IntWalk.i64_in _ ⟨by omega, by omega⟩
        have gA := rowS_get (a := a) (b := b) (i := i + 1) (u := b.length) (j := k) (by omega) (by omega)
        have gB := rowS_get (a := a) (b := b) (i := i) (u := u) (j := k + 1) (by omega) (by omega)
        have gC' := rowS_get (a := a) (b := b) (i := i + 1) (u := b.length) (j := k + 1) (by omega) (by omega)
        have gC : (rowS a b (i + 1) b.length).getD (k + 1) undefD = .v (.int .i64 (sufL a b (i + 1) (k + 1) : Int)) := gC'
        have lA := rowS_len a b (i + 1) b.length
        have lB := rowS_len a b i u
        (simp (disch := first | decide | omega | (simp only [add_next, set_next, grow_next, leave_next, drop_next, List.length_map]; first | done | omega)) only [go_sem, ↓reduceIte, Nat.reduceBEq, Nat.reduceAdd, Nat.reduceLeDiff, Nat.reduceEqDiff, Nat.reduceLT, Nat.reduceMul, q0b, q6b, q7, b2, b3, q5b]; (repeat (with_reducible refine And.intro (by first | omega | assumption | rfl) ?_)))
        refine ddraw_mk 23 (by kernel_rfl) ?_
        obtain ⟨m, hm⟩ : ∃ m, max (sufL a b (i + 1) k) (sufL a b i (k + 1)) = m := ⟨_, rfl⟩
        have hmx : (if (sufL a b (i + 1) k : Int) < (sufL a b i (k + 1) : Int) then (sufL a b i (k + 1) : Int) else (sufL a b (i + 1) k : Int)) = (m : Int) := by rw [← hm]; split <;> omega
        have hil2 : i < a.length := by omega
        have hkl2 : k < b.length := by omega
        have hstep := sufL_step hil2 hkl2
        have hsc1 := set_cells (rowS a b i u) k (intD m) (by omega)
        have wk1 : IntKind.i64.wrap ((k : Int) - 1) = (k : Int) - 1 := IntWalk.i64_in _ ⟨by omega, by omega⟩
        have hkn : T.next ≠ k1 := by omega
        have e71 : (k : Int) - 1 = (b.length : Int) - 1 - ((u + 1 : Nat) : Int) := by omega
        (simp (disch := first | decide | omega | (simp only [add_next, set_next, grow_next, leave_next, drop_next, List.length_map]; first | done | omega)) only [go_sem, ↓reduceIte, Nat.reduceBEq, Nat.reduceAdd, Nat.reduceLeDiff, Nat.reduceEqDiff, Nat.reduceLT, Nat.reduceMul, q0b, q5b, q6b, q7, hB2, hcl1, h2, h02, hg0, hg1, wi, wk, gA, gB, lA, lB, Nat.mul_one, intD, hmx]; (repeat (with_reducible refine And.intro (by first | omega | assumption | rfl) ?_)))
        rw [show D.v (.int .i64 (m : Int)) = intD m from rfl, hsc1]
        refine ddraw_mk 9 (by kernel_rfl) ?_
        by_cases hx : a[i] = b[k]
        · have b4 : ((a[i] : Int) == (b[k] : Int)) = true := by simp [hx]
          have hbd := lcs_bound (a.drop (i + 1)) (b.drop (k + 1))
          have hsb : sufL a b (i + 1) (k + 1) ≤ 1000 := by
            have := hbd.1
            rw [List.length_drop] at this
            unfold sufL
            omega
          have wS : IntKind.i64.wrap (1 + (sufL a b (i + 1) (k + 1) : Int)) = ((1 + sufL a b (i + 1) (k + 1) : Nat) : Int) := IntWalk.i64_in _ ⟨by omega, by omega⟩
          have lD : ((rowS a b i u).set k (intD m)).length = b.length + 1 := by rw [List.length_set, lB]
          have gD : ((rowS a b i u).set k (intD m)).getD k undefD = .v (.int .i64 (m : Int)) := by simp [List.getD_eq_getElem?_getD, lB, show k < b.length + 1 by omega, intD]
          rw [if_pos hx] at hstep
          have hmx2 : (if (m : Int) < ((1 + sufL a b (i + 1) (k + 1) : Nat) : Int) then ((1 + sufL a b (i + 1) (k + 1) : Nat) : Int) else (m : Int)) = (sufL a b i k : Int) := by rw [hstep, hm]; split <;> omega
          have hsc2 := set_cells ((rowS a b i u).set k (intD m)) k (intD (sufL a b i k)) (by omega)
          rw [List.set_set, rowS_set hk rfl] at hsc2
          (simp (disch := first | decide | omega | (simp only [add_next, set_next, grow_next, leave_next, drop_next, List.length_map]; first | done | omega)) only [go_sem, ↓reduceIte, Nat.reduceBEq, Nat.reduceAdd, Nat.reduceLeDiff, Nat.reduceEqDiff, Nat.reduceLT, Nat.reduceMul, q0b, q1b, q6b, q7, b4, u64D]; (repeat (with_reducible refine And.intro (by first | omega | assumption | rfl) ?_)))
          refine ddraw_mk 24 (by kernel_rfl) ?_
          (simp (disch := first | decide | omega | (simp only [add_next, set_next, grow_next, leave_next, drop_next, List.length_map]; first | done | omega)) only [go_sem, ↓reduceIte, Nat.reduceBEq, Nat.reduceAdd, Nat.reduceLeDiff, Nat.reduceEqDiff, Nat.reduceLT, Nat.reduceMul, q0b, q5b, q6b, q7, hB2, hcl1, h2, hg0, hg1, wi, wk, gC, gD, lA, lD, Nat.mul_one, wS, hmx2, hkn, wk1]; (repeat (with_reducible refine And.intro (by first | omega | assumption | rfl) ?_)))
          rw [show D.v (.int .i64 (sufL a b i k : Int)) = intD (sufL a b i k) from rfl, hsc2]
          refine ⟨hlu, _, fun _ _ h => h, by omega, fun h => absurd h ht, by simp (disch := first | decide | omega | (simp only [add_next, set_next, grow_next, leave_next, drop_next, List.length_map]; first | done | omega)) only [go_sem, ↓reduceIte, Nat.reduceBEq, Nat.reduceAdd, Nat.reduceLeDiff, Nat.reduceEqDiff, Nat.reduceLT, Nat.reduceMul, e71], by (first | (simp (disch := first | decide | omega | (simp only [add_next, set_next, grow_next, leave_next, drop_next, List.length_map]; first | done | omega)) only [go_sem, ↓reduceIte, Nat.reduceBEq, Nat.reduceAdd, Nat.reduceLeDiff, Nat.reduceEqDiff, Nat.reduceLT, Nat.reduceMul, hB2]; first | done | rfl) | rfl), by (first | (simp (disch := first | decide | omega | (simp only [add_next, set_next, grow_next, leave_next, drop_next, List.length_map]; first | done | omega)) only [go_sem, ↓reduceIte, Nat.reduceBEq, Nat.reduceAdd, Nat.reduceLeDiff, Nat.reduceEqDiff, Nat.reduceLT, Nat.reduceMul]; first | done | rfl) | rfl), fun _ => ⟨k1, h1, by (first | (simp (disch := first | decide | omega | (simp only [add_next, set_next, grow_next, leave_next, drop_next, List.length_map]; first | done | omega)) only [go_sem, ↓reduceIte, Nat.reduceBEq, Nat.reduceAdd, Nat.reduceLeDiff, Nat.reduceEqDiff, Nat.reduceLT, Nat.reduceMul, h2]; first | done | rfl) | rfl), h3, h4⟩, ?_, ?_⟩
          · show T.next + 1 ≤ T2.next
            omega
          · exact (hs2.set hS (by omega) _).set hS (by omega) _
        · have b4 : ((a[i] : Int) == (b[k] : Int)) = false := by simp; omega
          rw [if_neg hx] at hstep
          have hrs := rowS_set hk (a := a) (i := i) (n := m) (by omega)
          (simp (disch := first | decide | omega | (simp only [add_next, set_next, grow_next, leave_next, drop_next, List.length_map]; first | done | omega)) only [go_sem, ↓reduceIte, Nat.reduceBEq, Nat.reduceAdd, Nat.reduceLeDiff, Nat.reduceEqDiff, Nat.reduceLT, Nat.reduceMul, q0b, q1b, q6b, q7, b4, u64D, wk1]; (repeat (with_reducible refine And.intro (by first | omega | assumption | rfl) ?_)))
          rw [hrs]
          refine ⟨hlu, _, fun _ _ h => h, by omega, fun h => absurd h ht, by simp (disch := first | decide | omega | (simp only [add_next, set_next, grow_next, leave_next, drop_next, List.length_map]; first | done | omega)) only [go_sem, ↓reduceIte, Nat.reduceBEq, Nat.reduceAdd, Nat.reduceLeDiff, Nat.reduceEqDiff, Nat.reduceLT, Nat.reduceMul, e71], by (first | (simp (disch := first | decide | omega | (simp only [add_next, set_next, grow_next, leave_next, drop_next, List.length_map]; first | done | omega)) only [go_sem, ↓reduceIte, Nat.reduceBEq, Nat.reduceAdd, Nat.reduceLeDiff, Nat.reduceEqDiff, Nat.reduceLT, Nat.reduceMul, hB2]; first | done | rfl) | rfl), by (first | (simp (disch := first | decide | omega | (simp only [add_next, set_next, grow_next, leave_next, drop_next, List.length_map]; first | done | omega)) only [go_sem, ↓reduceIte, Nat.reduceBEq, Nat.reduceAdd, Nat.reduceLeDiff, Nat.reduceEqDiff, Nat.reduceLT, Nat.reduceMul]; first | done | rfl) | rfl), fun _ => ⟨k1, h1, by (first | (simp (disch := first | decide | omega | (simp only [add_next, set_next, grow_next, leave_next, drop_next, List.length_map]; first | done | omega)) only [go_sem, ↓reduceIte, Nat.reduceBEq, Nat.reduceAdd, Nat.reduceLeDiff, Nat.reduceEqDiff, Nat.reduceLT, Nat.reduceMul, h2]; first | done | rfl) | rfl), h3, h4⟩, ?_, ?_⟩
          · show T.next + 1 ≤ T2.next
            omega
          · exact hs2.set hS (by omega) _
      · have b2 : decide ((0 : Int) ≤ (b.length : Int) - 1 - (u : Int)) = false := by simp; omega
        have hub : u = b.length := by omega
        have hfin : T2.ob T.next = some (.box 3 (rowS a b i b.length)) := by rw [h02, hub]
        (simp (disch := first | decide | omega | (simp only [add_next, set_next, grow_next, leave_next, drop_next, List.length_map]; first | done | omega)) only [go_sem, ↓reduceIte, Nat.reduceBEq, Nat.reduceAdd, Nat.reduceLeDiff, Nat.reduceEqDiff, Nat.reduceLT, Nat.reduceMul, q0b, q6b, q7, b2, b3, w6]; (repeat (with_reducible refine And.intro (by first | omega | assumption | rfl) ?_)))
        refine ⟨by omega, T2.ob, fun _ _ h => h, by omega, by simp (disch := first | decide | omega | (simp only [add_next, set_next, grow_next, leave_next, drop_next, List.length_map]; first | done | omega)) only [go_sem, ↓reduceIte, Nat.reduceBEq, Nat.reduceAdd, Nat.reduceLeDiff, Nat.reduceEqDiff, Nat.reduceLT, Nat.reduceMul, e61], ⟨cs1, hcl1, hB2, fun _ => ⟨T.next, by rw [ei]; exact hg0, by rw [ei]; exact hfin, hn, by show T.next < T2.next; omega⟩⟩, by show S.next < T2.next; omega, hs2⟩
  · obtain ⟨k1, h1, h2, h3, h4⟩ := hrow (by omega)
    have et : a.length + 1 - t = 0 := by omega
    have b1 : decide ((0 : Int) ≤ (a.length : Int) - (t : Int)) = false := by simp; omega
    rw [et] at h1 h2
    have g1 := rowS_get (a := a) (b := b) (i := 0) (u := b.length) (j := 0) (by omega) (by omega)
    have lA := rowS_len a b 0 b.length
    (simp (disch := first | decide | omega | (simp only [add_next, set_next, grow_next, leave_next, drop_next, List.length_map]; first | done | omega)) only [go_sem, ↓reduceIte, Nat.reduceBEq, Nat.reduceAdd, Nat.reduceLeDiff, Nat.reduceEqDiff, Nat.reduceLT, Nat.reduceMul, q0, q1, q5, q6, b1, hB, hcl, h1, h2, g1, lA, Nat.mul_one, Nat.zero_mul]; (repeat (with_reducible refine And.intro (by first | omega | assumption | rfl) ?_)))
    refine ⟨?_, (by (repeat' first | assumption | exact St.Sub.refl _ | exact RowOk.sub (by assumption) (by assumption) | refine St.Sub.trans ?_ (RowOk.sub (by assumption) (by assumption)) | refine St.Sub.add ?_ ?_ _ | refine St.Sub.set ?_ ?_ ?_ _ | refine St.Sub.keep ?_ ?_ | refine St.WF.leave ?_ _ | refine St.WF.add ?_ _ | refine St.WF.set ?_ ?_ _ | refine St.WF.grow ?_ _ _ _ | refine St.WF.keep ?_ ?_ | (first | omega | (simp only [RowOk.lo, add_next, set_next, grow_next, leave_next, drop_next]; first | done | omega))))⟩
    rw [sufL_all]
    rfl
end Go.Proofs.Ytjjhjhjphhpeiaa

/- Values, walked: the program's Same. Conditions: none. -/
namespace Go.Proofs.Ytjjhjhjphhpeiaa
open Go.RowKit
set_option linter.unusedSimpArgs false
set_option linter.unusedVariables false
theorem strEq_d (own own2 : Own) (l m : List Str) (hn : l.length ≤ 140737488351232) (hm : m.length ≤ 140737488351232) : DPure Try.prog 68 [.sl own (l.map strD), .sl own2 (m.map strD)] (.v (.bool (decide (l = m)))) :=
  dpure_of_gives (fun _ _ => by kernel_rfl) fun w η X vs hr => by
    simp only [RepL] at hr
    obtain ⟨y, ys, rfl, h1, z, zs, rfl, h2, rfl⟩ := hr
    obtain ⟨A, c, rfl, hc, hf⟩ := strArg h1
    obtain ⟨A2, c2, rfl, hc2, hf2⟩ := strArg h2
    exact strEqual_calls l m A A2 c c2 w hf hf2 hn hm
set_option maxRecDepth 200000 in
set_option maxHeartbeats 4000000 in
theorem uEq_d (own own2 : Own) (l m : List Nat) (hn : l.length ≤ 1000000) : DPure Try.prog 69 [.sl own (l.map u64D), .sl own2 (m.map u64D)] (.v (.bool (decide (l = m)))) := by
  refine dpure_of_dwp mixed Try.func69 rfl (fun _ _ => by kernel_rfl) (rs := [.tmp 4]) rfl (by kernel_rfl) trivial (fun S hS => ?_)
  by_cases hlm : l.length = m.length
  · have b0 : ((l.length : Int) != (m.length : Int)) = false := by simp [hlm]
    (simp (disch := first | decide | omega | (simp only [add_next, set_next, grow_next, leave_next, drop_next, List.length_map]; first | done | omega)) only [go_sem, ↓reduceIte, Nat.reduceBEq, Nat.reduceAdd, Nat.reduceLeDiff, Nat.reduceEqDiff, Nat.reduceLT, Nat.reduceMul, b0]; (repeat (with_reducible refine And.intro (by first | omega | assumption | rfl) ?_)))
    (refine dloop_st (fun t => List.contains [4, 5, 13, 14, 15, 16, 17, 18, 19, 20, 21, 22, 23, 24, 25] t) (by kernel_rfl) ?_ (l.length) (fun i f => i ≤ l.length ∧ f 13 = .v (.int .i64 ((i : Nat) : Int)) ∧ (∀ (r : Nat) (h1 : r < l.length) (h2 : r < m.length), r < i → l[r] = m[r])) ?_ ?_; (exact (by (repeat' first | assumption | refine St.WF.leave ?_ _ | refine St.WF.add ?_ _ | refine St.WF.set ?_ ?_ _ | refine St.WF.grow ?_ _ _ _ | refine St.WF.keep ?_ ?_ | (first | omega | (simp only [RowOk.lo, add_next, set_next, grow_next, leave_next, drop_next]; first | done | omega))))); (exact ⟨(by omega), (by (first | (simp (disch := first | decide | omega | (simp only [add_next, set_next, grow_next, leave_next, drop_next, List.length_map]; first | done | omega)) only [go_sem, ↓reduceIte, Nat.reduceBEq, Nat.reduceAdd, Nat.reduceLeDiff, Nat.reduceEqDiff, Nat.reduceLT, Nat.reduceMul]; first | done | rfl) | rfl)), (fun r _ _ h => by omega)⟩); intro i g tn hn hT hg hI; obtain ⟨le, q13, hno⟩ := hI; have q0 := hg 0 rfl; have q1 := hg 1 rfl; have q12 := hg 12 rfl; simp (disch := first | decide | omega | (simp only [add_next, set_next, grow_next, leave_next, drop_next, List.length_map]; first | done | omega)) only [go_sem, ↓reduceIte, Nat.reduceBEq, Nat.reduceAdd, Nat.reduceLeDiff, Nat.reduceEqDiff, Nat.reduceLT, Nat.reduceMul] at q0 q1 q12; clear hg; have hn' := hn; try simp only [add_next, set_next, grow_next, leave_next, drop_next] at hn')
    by_cases hlt : i < l.length
    · have hlt2 : i < m.length := by omega
      have b1 : decide ((i : Int) < (l.length : Int)) = true := by simp; omega
      have w1 : IntKind.i64.wrap ((i : Int) + 1) = ((i + 1 : Nat) : Int) := IntWalk.i64_in _ ⟨by omega, by omega⟩
      have hx := getD_map u64D l i hlt
      have hy := getD_map u64D m i hlt2
      (simp (disch := first | decide | omega | (simp only [add_next, set_next, grow_next, leave_next, drop_next, List.length_map]; first | done | omega)) only [go_sem, ↓reduceIte, Nat.reduceBEq, Nat.reduceAdd, Nat.reduceLeDiff, Nat.reduceEqDiff, Nat.reduceLT, Nat.reduceMul, b1, q0, q1, q12, q13]; (repeat (with_reducible refine And.intro (by first | omega | assumption | rfl) ?_)))
      refine ddraw_mk 9 (by kernel_rfl) ?_
      (simp (disch := first | decide | omega | (simp only [add_next, set_next, grow_next, leave_next, drop_next, List.length_map]; first | done | omega)) only [go_sem, ↓reduceIte, Nat.reduceBEq, Nat.reduceAdd, Nat.reduceLeDiff, Nat.reduceEqDiff, Nat.reduceLT, Nat.reduceMul, b1, hx, hy, q0, q1, q12, q13]; (repeat (with_reducible refine And.intro (by first | omega | assumption | rfl) ?_)))
      by_cases he : l[i] = m[i]
      · have b2 : ((l[i] : Int) != (m[i] : Int)) = false := by simp [he]
        (simp (disch := first | decide | omega | (simp only [add_next, set_next, grow_next, leave_next, drop_next, List.length_map]; first | done | omega)) only [go_sem, ↓reduceIte, Nat.reduceBEq, Nat.reduceAdd, Nat.reduceLeDiff, Nat.reduceEqDiff, Nat.reduceLT, Nat.reduceMul, b2, w1, q0, q1, q12, q13]; (repeat (with_reducible refine And.intro (by first | omega | assumption | rfl) ?_)))
        (refine ⟨by omega, (by (repeat' first | assumption | exact St.Sub.refl _ | exact RowOk.sub (by assumption) (by assumption) | refine St.Sub.trans ?_ (RowOk.sub (by assumption) (by assumption)) | refine St.Sub.add ?_ ?_ _ | refine St.Sub.set ?_ ?_ ?_ _ | refine St.Sub.keep ?_ ?_ | refine St.WF.leave ?_ _ | refine St.WF.add ?_ _ | refine St.WF.set ?_ ?_ _ | refine St.WF.grow ?_ _ _ _ | refine St.WF.keep ?_ ?_ | (first | omega | (simp only [RowOk.lo, add_next, set_next, grow_next, leave_next, drop_next]; first | done | omega)))), ?_⟩; refine ⟨by omega, ?_, ?_⟩; all_goals (try (first | (simp (disch := first | decide | omega | (simp only [add_next, set_next, grow_next, leave_next, drop_next, List.length_map]; first | done | omega)) only [go_sem, ↓reduceIte, Nat.reduceBEq, Nat.reduceAdd, Nat.reduceLeDiff, Nat.reduceEqDiff, Nat.reduceLT, Nat.reduceMul, w1]; first | done | rfl) | rfl)))
        intro r h1 h2 hr
        by_cases e : r = i
        · subst e; exact he
        · exact hno r h1 h2 (by omega)
      · have b2 : ((l[i] : Int) != (m[i] : Int)) = true := by simp; omega
        (simp (disch := first | decide | omega | (simp only [add_next, set_next, grow_next, leave_next, drop_next, List.length_map]; first | done | omega)) only [go_sem, ↓reduceIte, Nat.reduceBEq, Nat.reduceAdd, Nat.reduceLeDiff, Nat.reduceEqDiff, Nat.reduceLT, Nat.reduceMul, b2]; (repeat (with_reducible refine And.intro (by first | omega | assumption | rfl) ?_)))
        have hne : decide (l = m) = false := by
          rw [decide_eq_false_iff_not]
          rintro rfl
          exact he rfl
        rw [hne]
        exact ⟨rfl, (by (repeat' first | assumption | exact St.Sub.refl _ | exact RowOk.sub (by assumption) (by assumption) | refine St.Sub.trans ?_ (RowOk.sub (by assumption) (by assumption)) | refine St.Sub.add ?_ ?_ _ | refine St.Sub.set ?_ ?_ ?_ _ | refine St.Sub.keep ?_ ?_ | refine St.WF.leave ?_ _ | refine St.WF.add ?_ _ | refine St.WF.set ?_ ?_ _ | refine St.WF.grow ?_ _ _ _ | refine St.WF.keep ?_ ?_ | (first | omega | (simp only [RowOk.lo, add_next, set_next, grow_next, leave_next, drop_next]; first | done | omega))))⟩
    · have b1 : decide ((i : Int) < (l.length : Int)) = false := by simp; omega
      (simp (disch := first | decide | omega | (simp only [add_next, set_next, grow_next, leave_next, drop_next, List.length_map]; first | done | omega)) only [go_sem, ↓reduceIte, Nat.reduceBEq, Nat.reduceAdd, Nat.reduceLeDiff, Nat.reduceEqDiff, Nat.reduceLT, Nat.reduceMul, b1, q0, q1, q12, q13]; (repeat (with_reducible refine And.intro (by first | omega | assumption | rfl) ?_)))
      have heq : decide (l = m) = true := by
        rw [decide_eq_true_eq]
        exact List.ext_getElem hlm fun r h1 h2 => hno r h1 h2 (by omega)
      rw [heq]
      exact ⟨rfl, (by (repeat' first | assumption | exact St.Sub.refl _ | exact RowOk.sub (by assumption) (by assumption) | refine St.Sub.trans ?_ (RowOk.sub (by assumption) (by assumption)) | refine St.Sub.add ?_ ?_ _ | refine St.Sub.set ?_ ?_ ?_ _ | refine St.Sub.keep ?_ ?_ | refine St.WF.leave ?_ _ | refine St.WF.add ?_ _ | refine St.WF.set ?_ ?_ _ | refine St.WF.grow ?_ _ _ _ | refine St.WF.keep ?_ ?_ | (first | omega | (simp only [RowOk.lo, add_next, set_next, grow_next, leave_next, drop_next]; first | done | omega))))⟩
  · have b0 : ((l.length : Int) != (m.length : Int)) = true := by simp; omega
    (simp (disch := first | decide | omega | (simp only [add_next, set_next, grow_next, leave_next, drop_next, List.length_map]; first | done | omega)) only [go_sem, ↓reduceIte, Nat.reduceBEq, Nat.reduceAdd, Nat.reduceLeDiff, Nat.reduceEqDiff, Nat.reduceLT, Nat.reduceMul, b0]; (repeat (with_reducible refine And.intro (by first | omega | assumption | rfl) ?_)))
    have hne : decide (l = m) = false := by
      rw [decide_eq_false_iff_not]
      rintro rfl
      exact hlm rfl
    rw [hne]
    exact ⟨rfl, (by (repeat' first | assumption | exact St.Sub.refl _ | exact RowOk.sub (by assumption) (by assumption) | refine St.Sub.trans ?_ (RowOk.sub (by assumption) (by assumption)) | refine St.Sub.add ?_ ?_ _ | refine St.Sub.set ?_ ?_ ?_ _ | refine St.Sub.keep ?_ ?_ | refine St.WF.leave ?_ _ | refine St.WF.add ?_ _ | refine St.WF.set ?_ ?_ _ | refine St.WF.grow ?_ _ _ _ | refine St.WF.keep ?_ ?_ | (first | omega | (simp only [RowOk.lo, add_next, set_next, grow_next, leave_next, drop_next]; first | done | omega))))⟩
set_option maxRecDepth 200000 in
set_option maxHeartbeats 4000000 in
theorem valEqF_d (g : FuncId) (own own2 : Own) (l m : List DVal) (hn : l.length ≤ 1000000) (h : l.length = m.length → ∀ (i : Nat) (h1 : i < l.length) (h2 : i < m.length), DPure Try.prog g [encV l[i], encV m[i]] (.v (.bool (eqB l[i] m[i])))) : DPure Try.prog 70 [.sl own (l.map encV), .sl own2 (m.map encV), .fn (.func g) [] []] (.v (.bool (eqB l m))) := by
  refine dpure_of_dwp mixed Try.func70 rfl (fun _ _ => by kernel_rfl) (rs := [.tmp 6]) rfl (by kernel_rfl) trivial (fun S hS => ?_)
  by_cases hlm : l.length = m.length
  · have b0 : ((l.length : Int) != (m.length : Int)) = false := by simp [hlm]
    (simp (disch := first | decide | omega | (simp only [add_next, set_next, grow_next, leave_next, drop_next, List.length_map]; first | done | omega)) only [go_sem, ↓reduceIte, Nat.reduceBEq, Nat.reduceAdd, Nat.reduceLeDiff, Nat.reduceEqDiff, Nat.reduceLT, Nat.reduceMul, b0]; (repeat (with_reducible refine And.intro (by first | omega | assumption | rfl) ?_)))
    (refine dloop_st (fun t => List.contains [6, 7, 8, 9, 17, 18, 19, 20, 21, 22, 23, 24, 25, 26, 27, 28, 29, 30, 31] t) (by kernel_rfl) ?_ (l.length) (fun i f => i ≤ l.length ∧ f 17 = .v (.int .i64 ((i : Nat) : Int)) ∧ (∀ (r : Nat) (h1 : r < l.length) (h2 : r < m.length), r < i → l[r] = m[r])) ?_ ?_; (exact (by (repeat' first | assumption | refine St.WF.leave ?_ _ | refine St.WF.add ?_ _ | refine St.WF.set ?_ ?_ _ | refine St.WF.grow ?_ _ _ _ | refine St.WF.keep ?_ ?_ | (first | omega | (simp only [RowOk.lo, add_next, set_next, grow_next, leave_next, drop_next]; first | done | omega))))); (exact ⟨(by omega), (by (first | (simp (disch := first | decide | omega | (simp only [add_next, set_next, grow_next, leave_next, drop_next, List.length_map]; first | done | omega)) only [go_sem, ↓reduceIte, Nat.reduceBEq, Nat.reduceAdd, Nat.reduceLeDiff, Nat.reduceEqDiff, Nat.reduceLT, Nat.reduceMul]; first | done | rfl) | rfl)), (fun r _ _ h => by omega)⟩); intro i g tn hn hT hg hI; obtain ⟨le, q17, hno⟩ := hI; have q1 := hg 1 rfl; have q2 := hg 2 rfl; have q15 := hg 15 rfl; have q16 := hg 16 rfl; simp (disch := first | decide | omega | (simp only [add_next, set_next, grow_next, leave_next, drop_next, List.length_map]; first | done | omega)) only [go_sem, ↓reduceIte, Nat.reduceBEq, Nat.reduceAdd, Nat.reduceLeDiff, Nat.reduceEqDiff, Nat.reduceLT, Nat.reduceMul] at q1 q2 q15 q16; clear hg; have hn' := hn; try simp only [add_next, set_next, grow_next, leave_next, drop_next] at hn')
    by_cases hlt : i < l.length
    · have hlt2 : i < m.length := by omega
      have b1 : decide ((i : Int) < (l.length : Int)) = true := by simp; omega
      have w1 : IntKind.i64.wrap ((i : Int) + 1) = ((i + 1 : Nat) : Int) := IntWalk.i64_in _ ⟨by omega, by omega⟩
      have hx := getD_map encV l i hlt
      have hy := getD_map encV m i hlt2
      (simp (disch := first | decide | omega | (simp only [add_next, set_next, grow_next, leave_next, drop_next, List.length_map]; first | done | omega)) only [go_sem, ↓reduceIte, Nat.reduceBEq, Nat.reduceAdd, Nat.reduceLeDiff, Nat.reduceEqDiff, Nat.reduceLT, Nat.reduceMul, b1, hx, hy, q1, q2, q15, q16, q17]; (repeat (with_reducible refine And.intro (by first | omega | assumption | rfl) ?_)))
      refine DCalls.of_pure (h hlm i hlt hlt2) ?_
      by_cases he : l[i] = m[i]
      · rw [eqB_true he]
        (simp (disch := first | decide | omega | (simp only [add_next, set_next, grow_next, leave_next, drop_next, List.length_map]; first | done | omega)) only [go_sem, ↓reduceIte, Nat.reduceBEq, Nat.reduceAdd, Nat.reduceLeDiff, Nat.reduceEqDiff, Nat.reduceLT, Nat.reduceMul, w1, q1, q2, q15, q16, q17]; (repeat (with_reducible refine And.intro (by first | omega | assumption | rfl) ?_)))
        (refine ⟨by omega, (by (repeat' first | assumption | exact St.Sub.refl _ | exact RowOk.sub (by assumption) (by assumption) | refine St.Sub.trans ?_ (RowOk.sub (by assumption) (by assumption)) | refine St.Sub.add ?_ ?_ _ | refine St.Sub.set ?_ ?_ ?_ _ | refine St.Sub.keep ?_ ?_ | refine St.WF.leave ?_ _ | refine St.WF.add ?_ _ | refine St.WF.set ?_ ?_ _ | refine St.WF.grow ?_ _ _ _ | refine St.WF.keep ?_ ?_ | (first | omega | (simp only [RowOk.lo, add_next, set_next, grow_next, leave_next, drop_next]; first | done | omega)))), ?_⟩; refine ⟨by omega, ?_, ?_⟩; all_goals (try (first | (simp (disch := first | decide | omega | (simp only [add_next, set_next, grow_next, leave_next, drop_next, List.length_map]; first | done | omega)) only [go_sem, ↓reduceIte, Nat.reduceBEq, Nat.reduceAdd, Nat.reduceLeDiff, Nat.reduceEqDiff, Nat.reduceLT, Nat.reduceMul, w1]; first | done | rfl) | rfl)))
        intro r h1 h2 hr
        by_cases e : r = i
        · subst e; exact he
        · exact hno r h1 h2 (by omega)
      · rw [eqB_false he]
        (simp (disch := first | decide | omega | (simp only [add_next, set_next, grow_next, leave_next, drop_next, List.length_map]; first | done | omega)) only [go_sem, ↓reduceIte, Nat.reduceBEq, Nat.reduceAdd, Nat.reduceLeDiff, Nat.reduceEqDiff, Nat.reduceLT, Nat.reduceMul]; (repeat (with_reducible refine And.intro (by first | omega | assumption | rfl) ?_)))
        have hne : eqB l m = false := eqB_false (by rintro rfl; exact he rfl)
        rw [hne]
        exact ⟨rfl, (by (repeat' first | assumption | exact St.Sub.refl _ | exact RowOk.sub (by assumption) (by assumption) | refine St.Sub.trans ?_ (RowOk.sub (by assumption) (by assumption)) | refine St.Sub.add ?_ ?_ _ | refine St.Sub.set ?_ ?_ ?_ _ | refine St.Sub.keep ?_ ?_ | refine St.WF.leave ?_ _ | refine St.WF.add ?_ _ | refine St.WF.set ?_ ?_ _ | refine St.WF.grow ?_ _ _ _ | refine St.WF.keep ?_ ?_ | (first | omega | (simp only [RowOk.lo, add_next, set_next, grow_next, leave_next, drop_next]; first | done | omega))))⟩
    · have b1 : decide ((i : Int) < (l.length : Int)) = false := by simp; omega
      (simp (disch := first | decide | omega | (simp only [add_next, set_next, grow_next, leave_next, drop_next, List.length_map]; first | done | omega)) only [go_sem, ↓reduceIte, Nat.reduceBEq, Nat.reduceAdd, Nat.reduceLeDiff, Nat.reduceEqDiff, Nat.reduceLT, Nat.reduceMul, b1, q1, q2, q15, q16, q17]; (repeat (with_reducible refine And.intro (by first | omega | assumption | rfl) ?_)))
      have heq : eqB l m = true := eqB_true (List.ext_getElem hlm fun r h1 h2 => hno r h1 h2 (by omega))
      rw [heq]
      exact ⟨rfl, (by (repeat' first | assumption | exact St.Sub.refl _ | exact RowOk.sub (by assumption) (by assumption) | refine St.Sub.trans ?_ (RowOk.sub (by assumption) (by assumption)) | refine St.Sub.add ?_ ?_ _ | refine St.Sub.set ?_ ?_ ?_ _ | refine St.Sub.keep ?_ ?_ | refine St.WF.leave ?_ _ | refine St.WF.add ?_ _ | refine St.WF.set ?_ ?_ _ | refine St.WF.grow ?_ _ _ _ | refine St.WF.keep ?_ ?_ | (first | omega | (simp only [RowOk.lo, add_next, set_next, grow_next, leave_next, drop_next]; first | done | omega))))⟩
  · have b0 : ((l.length : Int) != (m.length : Int)) = true := by simp; omega
    (simp (disch := first | decide | omega | (simp only [add_next, set_next, grow_next, leave_next, drop_next, List.length_map]; first | done | omega)) only [go_sem, ↓reduceIte, Nat.reduceBEq, Nat.reduceAdd, Nat.reduceLeDiff, Nat.reduceEqDiff, Nat.reduceLT, Nat.reduceMul, b0]; (repeat (with_reducible refine And.intro (by first | omega | assumption | rfl) ?_)))
    have hne : eqB l m = false := eqB_false (by rintro rfl; exact hlm rfl)
    rw [hne]
    exact ⟨rfl, (by (repeat' first | assumption | exact St.Sub.refl _ | exact RowOk.sub (by assumption) (by assumption) | refine St.Sub.trans ?_ (RowOk.sub (by assumption) (by assumption)) | refine St.Sub.add ?_ ?_ _ | refine St.Sub.set ?_ ?_ ?_ _ | refine St.Sub.keep ?_ ?_ | refine St.WF.leave ?_ _ | refine St.WF.add ?_ _ | refine St.WF.set ?_ ?_ _ | refine St.WF.grow ?_ _ _ _ | refine St.WF.keep ?_ ?_ | (first | omega | (simp only [RowOk.lo, add_next, set_next, grow_next, leave_next, drop_next]; first | done | omega))))⟩
set_option maxRecDepth 200000 in
set_option maxHeartbeats 4000000 in
theorem valSame_d (k : Nat) : ∀ (a b : DVal), a.depth ≤ k → a.weight ≤ 1000000 → b.weight ≤ 1000000 → DPure Try.prog 41 [encV a, encV b] (.v (.bool (eqB a b))) := by
  induction k with
  | zero => intro a b h; have := a.depth_pos; omega
  | succ k ih =>
    intro a b hk ha hb
    have hwa := a.weight_eq
    have hwb := b.weight_eq
    have hpa := partsLen a
    have hpb := partsLen b
    refine dpure_of_dwp mixed Try.func41 rfl (fun _ _ => by kernel_rfl) (rs := [.tmp 4]) rfl (by kernel_rfl) trivial (fun S hS => ?_)
    have fin : ∀ (T : St), S.Sub T → eqB a b = false → PFin S T (.v (.bool false)) (.v (.bool (eqB a b))) := fun T hT he => by rw [he]; exact ⟨rfl, hT⟩
    by_cases h1 : a.kind = b.kind
    rotate_left
    · have b1 : (a.kind == b.kind) = false := by simpa using h1
      (simp (disch := first | decide | omega | (simp only [add_next, set_next, grow_next, leave_next, drop_next, List.length_map]; first | done | omega)) only [go_sem, ↓reduceIte, Nat.reduceBEq, Nat.reduceAdd, Nat.reduceLeDiff, Nat.reduceEqDiff, Nat.reduceLT, Nat.reduceMul, encV_eq, b1]; (repeat (with_reducible refine And.intro (by first | omega | assumption | rfl) ?_)))
      exact fin _ (by (repeat' first | assumption | exact St.Sub.refl _ | exact RowOk.sub (by assumption) (by assumption) | refine St.Sub.trans ?_ (RowOk.sub (by assumption) (by assumption)) | refine St.Sub.add ?_ ?_ _ | refine St.Sub.set ?_ ?_ ?_ _ | refine St.Sub.keep ?_ ?_ | refine St.WF.leave ?_ _ | refine St.WF.add ?_ _ | refine St.WF.set ?_ ?_ _ | refine St.WF.grow ?_ _ _ _ | refine St.WF.keep ?_ ?_ | (first | omega | (simp only [RowOk.lo, add_next, set_next, grow_next, leave_next, drop_next]; first | done | omega)))) (eqB_false (by rintro rfl; exact h1 rfl))
    by_cases h2 : a.n = b.n
    rotate_left
    · have b1 : (a.kind == b.kind) = true := by simpa using h1
      have b2 : (a.n == b.n) = false := by simpa using h2
      (simp (disch := first | decide | omega | (simp only [add_next, set_next, grow_next, leave_next, drop_next, List.length_map]; first | done | omega)) only [go_sem, ↓reduceIte, Nat.reduceBEq, Nat.reduceAdd, Nat.reduceLeDiff, Nat.reduceEqDiff, Nat.reduceLT, Nat.reduceMul, encV_eq, b1, b2]; (repeat (with_reducible refine And.intro (by first | omega | assumption | rfl) ?_)))
      exact fin _ (by (repeat' first | assumption | exact St.Sub.refl _ | exact RowOk.sub (by assumption) (by assumption) | refine St.Sub.trans ?_ (RowOk.sub (by assumption) (by assumption)) | refine St.Sub.add ?_ ?_ _ | refine St.Sub.set ?_ ?_ ?_ _ | refine St.Sub.keep ?_ ?_ | refine St.WF.leave ?_ _ | refine St.WF.add ?_ _ | refine St.WF.set ?_ ?_ _ | refine St.WF.grow ?_ _ _ _ | refine St.WF.keep ?_ ?_ | (first | omega | (simp only [RowOk.lo, add_next, set_next, grow_next, leave_next, drop_next]; first | done | omega)))) (eqB_false (by rintro rfl; exact h2 rfl))
    by_cases h3 : a.s = b.s
    rotate_left
    · have b1 : (a.kind == b.kind) = true := by simpa using h1
      have b2 : (a.n == b.n) = true := by simpa using h2
      have b3 : (a.s == b.s) = false := by simpa using h3
      (simp (disch := first | decide | omega | (simp only [add_next, set_next, grow_next, leave_next, drop_next, List.length_map]; first | done | omega)) only [go_sem, ↓reduceIte, Nat.reduceBEq, Nat.reduceAdd, Nat.reduceLeDiff, Nat.reduceEqDiff, Nat.reduceLT, Nat.reduceMul, encV_eq, b1, b2, b3]; (repeat (with_reducible refine And.intro (by first | omega | assumption | rfl) ?_)))
      exact fin _ (by (repeat' first | assumption | exact St.Sub.refl _ | exact RowOk.sub (by assumption) (by assumption) | refine St.Sub.trans ?_ (RowOk.sub (by assumption) (by assumption)) | refine St.Sub.add ?_ ?_ _ | refine St.Sub.set ?_ ?_ ?_ _ | refine St.Sub.keep ?_ ?_ | refine St.WF.leave ?_ _ | refine St.WF.add ?_ _ | refine St.WF.set ?_ ?_ _ | refine St.WF.grow ?_ _ _ _ | refine St.WF.keep ?_ ?_ | (first | omega | (simp only [RowOk.lo, add_next, set_next, grow_next, leave_next, drop_next]; first | done | omega)))) (eqB_false (by rintro rfl; exact h3 rfl))
    have b1 : (a.kind == b.kind) = true := by simpa using h1
    have b2 : (a.n == b.n) = true := by simpa using h2
    have b3 : (a.s == b.s) = true := by simpa using h3
    (simp (disch := first | decide | omega | (simp only [add_next, set_next, grow_next, leave_next, drop_next, List.length_map]; first | done | omega)) only [go_sem, ↓reduceIte, Nat.reduceBEq, Nat.reduceAdd, Nat.reduceLeDiff, Nat.reduceEqDiff, Nat.reduceLT, Nat.reduceMul, encV_eq, b1, b2, b3]; (repeat (with_reducible refine And.intro (by first | omega | assumption | rfl) ?_)))
    refine DCalls.of_pure (strEq_d .no .no a.names b.names (by omega) (by omega)) ?_
    by_cases h4 : a.names = b.names
    rotate_left
    · have b4 : decide (a.names = b.names) = false := by simpa using h4
      (simp (disch := first | decide | omega | (simp only [add_next, set_next, grow_next, leave_next, drop_next, List.length_map]; first | done | omega)) only [go_sem, ↓reduceIte, Nat.reduceBEq, Nat.reduceAdd, Nat.reduceLeDiff, Nat.reduceEqDiff, Nat.reduceLT, Nat.reduceMul, b4]; (repeat (with_reducible refine And.intro (by first | omega | assumption | rfl) ?_)))
      exact fin _ (by (repeat' first | assumption | exact St.Sub.refl _ | exact RowOk.sub (by assumption) (by assumption) | refine St.Sub.trans ?_ (RowOk.sub (by assumption) (by assumption)) | refine St.Sub.add ?_ ?_ _ | refine St.Sub.set ?_ ?_ ?_ _ | refine St.Sub.keep ?_ ?_ | refine St.WF.leave ?_ _ | refine St.WF.add ?_ _ | refine St.WF.set ?_ ?_ _ | refine St.WF.grow ?_ _ _ _ | refine St.WF.keep ?_ ?_ | (first | omega | (simp only [RowOk.lo, add_next, set_next, grow_next, leave_next, drop_next]; first | done | omega)))) (eqB_false (by rintro rfl; exact h4 rfl))
    have b4 : decide (a.names = b.names) = true := by simpa using h4
    (simp (disch := first | decide | omega | (simp only [add_next, set_next, grow_next, leave_next, drop_next, List.length_map]; first | done | omega)) only [go_sem, ↓reduceIte, Nat.reduceBEq, Nat.reduceAdd, Nat.reduceLeDiff, Nat.reduceEqDiff, Nat.reduceLT, Nat.reduceMul, b4]; (repeat (with_reducible refine And.intro (by first | omega | assumption | rfl) ?_)))
    refine DCalls.of_pure (uEq_d .no .no a.ids b.ids (by omega)) ?_
    by_cases h5 : a.ids = b.ids
    rotate_left
    · have b5 : decide (a.ids = b.ids) = false := by simpa using h5
      (simp (disch := first | decide | omega | (simp only [add_next, set_next, grow_next, leave_next, drop_next, List.length_map]; first | done | omega)) only [go_sem, ↓reduceIte, Nat.reduceBEq, Nat.reduceAdd, Nat.reduceLeDiff, Nat.reduceEqDiff, Nat.reduceLT, Nat.reduceMul, b5]; (repeat (with_reducible refine And.intro (by first | omega | assumption | rfl) ?_)))
      exact fin _ (by (repeat' first | assumption | exact St.Sub.refl _ | exact RowOk.sub (by assumption) (by assumption) | refine St.Sub.trans ?_ (RowOk.sub (by assumption) (by assumption)) | refine St.Sub.add ?_ ?_ _ | refine St.Sub.set ?_ ?_ ?_ _ | refine St.Sub.keep ?_ ?_ | refine St.WF.leave ?_ _ | refine St.WF.add ?_ _ | refine St.WF.set ?_ ?_ _ | refine St.WF.grow ?_ _ _ _ | refine St.WF.keep ?_ ?_ | (first | omega | (simp only [RowOk.lo, add_next, set_next, grow_next, leave_next, drop_next]; first | done | omega)))) (eqB_false (by rintro rfl; exact h5 rfl))
    have b5 : decide (a.ids = b.ids) = true := by simpa using h5
    (simp (disch := first | decide | omega | (simp only [add_next, set_next, grow_next, leave_next, drop_next, List.length_map]; first | done | omega)) only [go_sem, ↓reduceIte, Nat.reduceBEq, Nat.reduceAdd, Nat.reduceLeDiff, Nat.reduceEqDiff, Nat.reduceLT, Nat.reduceMul, b5]; (repeat (with_reducible refine And.intro (by first | omega | assumption | rfl) ?_)))
    refine DCalls.of_pure (valEqF_d 41 .no .no a.parts b.parts (by omega) fun _ i i1 i2 => ih a.parts[i] b.parts[i] (by have := DVal.depth_part (List.getElem_mem i1); omega) (by have := DVal.weight_part (List.getElem_mem i1); omega) (by have := DVal.weight_part (List.getElem_mem i2); omega)) ?_
    (simp (disch := first | decide | omega | (simp only [add_next, set_next, grow_next, leave_next, drop_next, List.length_map]; first | done | omega)) only [go_sem, ↓reduceIte, Nat.reduceBEq, Nat.reduceAdd, Nat.reduceLeDiff, Nat.reduceEqDiff, Nat.reduceLT, Nat.reduceMul]; (repeat (with_reducible refine And.intro (by first | omega | assumption | rfl) ?_)))
    refine ⟨?_, (by (repeat' first | assumption | exact St.Sub.refl _ | exact RowOk.sub (by assumption) (by assumption) | refine St.Sub.trans ?_ (RowOk.sub (by assumption) (by assumption)) | refine St.Sub.add ?_ ?_ _ | refine St.Sub.set ?_ ?_ ?_ _ | refine St.Sub.keep ?_ ?_ | refine St.WF.leave ?_ _ | refine St.WF.add ?_ _ | refine St.WF.set ?_ ?_ _ | refine St.WF.grow ?_ _ _ _ | refine St.WF.keep ?_ ?_ | (first | omega | (simp only [RowOk.lo, add_next, set_next, grow_next, leave_next, drop_next]; first | done | omega))))⟩
    have : eqB a.parts b.parts = eqB a b := by
      by_cases h6 : a.parts = b.parts
      · rw [eqB_true h6, eqB_true ((DVal.ext_iff' a b).2 ⟨h1, h2, h3, h4, h5, h6⟩)]
      · rw [eqB_false h6, eqB_false (by rintro rfl; exact h6 rfl)]
    rw [this]
    rfl
end Go.Proofs.Ytjjhjhjphhpeiaa

/- Operations as trees; what the maker of operations holds. Conditions: lengths at most 1000000. -/
namespace Go.Proofs.Ytjjhjhjphhpeiaa
open Go.RowKit
set_option linter.unusedSimpArgs false
set_option linter.unusedVariables false
/-- A slice that is made anew, and never written to again. -/
theorem dapp_anew {P : Program} {S : St} {t tx ty e : TypeId} (he : elT P t = some e) (hx : (elT P tx).isSome = true) (hz : zeroT P e = true) (hz2 : zeroOk P e = true) {o2 : Own} {es : List D} {K : D → St → Prop} (hS : S.WF) (hw : ∀ d ∈ es, d.width = szOf P e) (hb : es.length ≤ 140737488355328) (hby : es.length * bytesOf P e ≤ 140737488355328)
    (h : K (.sl .no es) ⟨S.next + 1, S.ob⟩) : dapp P S t tx ty (.sl .full []) (.sl o2 es) K := by
  refine dapp_nil he ?_
  refine DRun.thaw ?_
  refine dappend_fresh he hx hz hz2 (es2 := es) (srcOk_sl hw) rfl hb hby fun c' zs' h1 h2 => ?_
  have hzp := (zeroT_pos hz).1
  refine ⟨_, _, thaw_own (k := S.next) (zs := zs') (c := c') (e := e) (es := es) (by simp [St.add]) h1 hzp hw rfl, ?_⟩
  have e1 : (D.win S.next 0 es.length c').thaw S.next es = .sl .no es := by simp [D.thaw]
  have e2 : (S.add (ownOb e es zs' c')).drop S.next = ⟨S.next + 1, S.ob⟩ := by
    unfold St.add St.drop
    congr 1
    funext j
    by_cases h : j = S.next
    · subst h; simp [hS _ (Nat.le_refl _)]
    · simp [h]
  rw [e1, e2]
  exact h
structure DOp where
  kind : Int
  path : List DStp
  id : Nat
  after : Nat
  val : DVal
/-- An operation's cells; whose the path's slice is. -/
def opCs (own : Own) (o : DOp) : List D := .v (.int .i64 o.kind) :: .sl own (o.path.map encP) :: .v (.int .u64 (o.id : Int)) :: .v (.int .u64 (o.after : Int)) :: (encV o.val).cells
def encO (o : DOp) : D := .agg (opCs .no o)
theorem opCs_len (own : Own) (o : DOp) : (opCs own o).length = 10 := by simp [opCs, cells_encV]
theorem take_opCs (own : Own) (o : DOp) : (opCs own o).take 10 = opCs own o := List.take_of_length_le (by rw [opCs_len]; omega)
theorem drop_opCs (own : Own) (o : DOp) : (opCs own o).drop 10 = [] := List.drop_of_length_le (by rw [opCs_len]; omega)
theorem agg_opCs (o : DOp) : D.agg (opCs .no o) = encO o := rfl
attribute [go_sem] opCs_len take_opCs drop_opCs agg_opCs
theorem cells_encO (o : DOp) : (encO o).cells = opCs .no o := rfl
theorem okCell_encO (o : DOp) : (encO o).okCell = true := rfl
attribute [go_sem] cells_encO okCell_encO
theorem width_encO (o : DOp) : (encO o).width = 10 := opCs_len .no o
theorem closed_encO (o : DOp) : (encO o).closed := by
  simp only [encO, opCs, D.closed, D.all, allL, Own.all, true_and]
  refine ⟨allL_iff.2 fun d hd => ?_, encV_cells_closed o.val⟩
  obtain ⟨p, _, rfl⟩ := List.mem_map.1 hd
  simp [encP, D.all, allL, strD, u64D]
theorem frz_mapP (l : List DStp) : frzL (l.map encP) = l.map encP := by simp [frzL_map, encP, D.frz, frzL, strD, u64D, Function.comp_def]
theorem frz_cellsV (v : DVal) : frzL (encV v).cells = (encV v).cells := by
  have h := frz_encV v
  rw [← agg_encV v, D.frz] at h
  rw [← agg_encV v] at h
  injection h
theorem frz_opCs (own : Own) (o : DOp) : frzL (opCs own o) = opCs .no o := by
  simp only [opCs, frzL, D.frz, frz_mapP, frz_cellsV]
theorem frz_encO (o : DOp) : (encO o).frz = encO o := by simp only [encO, D.frz, frz_opCs]
theorem frz_mapO (l : List DOp) : frzL (l.map encO) = l.map encO := by
  rw [frzL_map, List.map_map]
  exact List.map_congr_left fun o _ => frz_encO o
theorem wOs (l : List DOp) : ∀ d ∈ l.map encO, d.width = szOf Try.prog 53 := fun d hd => by
  obtain ⟨o, _, rfl⟩ := List.mem_map.1 hd
  exact (width_encO o).trans (by kernel_rfl : 10 = szOf Try.prog 53)
theorem wPs (l : List DStp) : ∀ d ∈ l.map encP, d.width = szOf Try.prog 78 := fun d hd => by
  obtain ⟨o, _, rfl⟩ := List.mem_map.1 hd
  exact (rfl : (encP o).width = 2).trans (by kernel_rfl : 2 = szOf Try.prog 78)
theorem keep_add {S : St} (hS : S.WF) (o : Ob) : ∀ j o', S.ob j = some o' → (S.add o).ob j = some o' := fun j o' e => by
  have := hS.lt e
  rw [add_ob, if_neg (by omega), e]
/-- In T the maker k holds these operations. -/
def MAt (k : Nat) (l : List DOp) (T : St) : Prop := ∃ own, T.ob k = some (.box 87 [.sl own (l.map encO)]) ∧ ((own = .full ∧ l = []) ∨ ∃ g, own = .row g ∧ k < g ∧ T.ob g = some (.row 53 l.length))
/-- Variables but k stay as they are. -/
structure MFr (k : Nat) (S T : St) : Prop where
  next : S.next ≤ T.next
  ob : ∀ j o, (j < k ∨ (j ≠ k ∧ ∃ t cs, o = .box t cs)) → S.ob j = some o → T.ob j = some o
theorem MFr.box {k : Nat} {S T : St} (h : MFr k S T) (j : Nat) (t : TypeId) (cs : List D) (hj : j ≠ k) (e : S.ob j = some (.box t cs)) : T.ob j = some (.box t cs) := h.ob j _ (.inr ⟨hj, t, cs, rfl⟩) e
theorem MFr.of_keep {k : Nat} {S T : St} (hn : S.next ≤ T.next) (h : ∀ j o, S.ob j = some o → T.ob j = some o) : MFr k S T := ⟨hn, fun j o _ e => h j o e⟩
theorem MFr.refl (k : Nat) (S : St) : MFr k S S := ⟨Nat.le_refl _, fun _ _ _ h => h⟩
theorem MFr.trans {k : Nat} {A B C : St} (h : MFr k A B) (g : MFr k B C) : MFr k A C := ⟨Nat.le_trans h.next g.next, fun j o hj e => g.ob j o hj (h.ob j o hj e)⟩
theorem MAt.keep {k : Nat} {l : List DOp} {S T : St} (h : MAt k l S) (hb : ∀ j o, S.ob j = some o → T.ob j = some o) : MAt k l T := by
  obtain ⟨own, h1, h2⟩ := h
  refine ⟨own, hb _ _ h1, ?_⟩
  rcases h2 with h2 | ⟨g, h2, h3, h4⟩
  · exact .inl h2
  · exact .inr ⟨g, h2, h3, hb _ _ h4⟩
theorem dapp_ops {S : St} {ty : TypeId} {own own2 : Own} {l : List DOp} {o : DOp} {K : D → St → Prop} (h : (own = .full ∧ l = []) ∨ ∃ g, own = .row g ∧ S.ob g = some (.row 53 l.length)) (hl : l.length ≤ 1000000)
    (k : K (.sl (.row S.next) ((l ++ [o]).map encO)) (S.grow own 53 (l.length + 1))) : dapp Try.prog S 48 48 ty (.sl own (l.map encO)) (.sl own2 [encO o]) K := by
  refine dapp_row ?_
  have he : elT Try.prog 48 = some 53 := by kernel_rfl
  have hb : bytesOf Try.prog 53 = 152 := by kernel_rfl
  have hz : zeroT Try.prog 53 = true := by kernel_rfl
  simp only [dappend, he, hz, hb, List.length_map, true_and, Option.isSome_some, List.length_cons, List.length_nil]
  refine ⟨wOs l, fun d hd => wOs [o] d (by simpa using hd), ?_, by omega, by omega, ?_⟩
  · rcases h with ⟨rfl, rfl⟩ | ⟨g, rfl, h⟩
    · trivial
    · exact h
  · rw [List.map_append] at k
    exact k
set_option maxRecDepth 200000 in
set_option maxHeartbeats 4000000 in
theorem add_w {S : St} {k : Nat} {l : List DOp} (own2 : Own) (o : DOp) (hk : k < S.next) (h : MAt k l S) (hl : l.length ≤ 1000000) (hp : o.path.length ≤ 1000000) : DCalls Try.prog 85 [.loc k 0, .agg (opCs own2 o)] S fun d T => d = undefD ∧ MAt k (l ++ [o]) T ∧ MFr k S T := by
  obtain ⟨own, h1, h2⟩ := h
  refine dcalls_inline mixed Try.func85 rfl (fun _ _ => by kernel_rfl) (rs := []) rfl (by kernel_rfl) (fun hS => ?_)
  have hk2 : (k = S.next) = False := by simp; omega
  (simp (disch := first | decide | omega | (simp only [add_next, set_next, grow_next, leave_next, drop_next, List.length_map]; first | done | omega)) only [go_sem, ↓reduceIte, Nat.reduceBEq, Nat.reduceAdd, Nat.reduceLeDiff, Nat.reduceEqDiff, Nat.reduceLT, Nat.reduceMul, opCs]; (repeat (with_reducible refine And.intro (by first | omega | assumption | rfl) ?_)))
  have hST : (S.add (.box 53 (opCs own2 o))).WF := hS.add _
  refine dapp_anew (by kernel_rfl) (by kernel_rfl) (by kernel_rfl) (by kernel_rfl) hST (wPs _) (by rw [List.length_map]; omega) (by rw [show bytesOf Try.prog 78 = 24 by kernel_rfl, List.length_map]; omega) ?_
  (simp (disch := first | decide | omega | (simp only [add_next, set_next, grow_next, leave_next, drop_next, List.length_map]; first | done | omega)) only [go_sem, ↓reduceIte, Nat.reduceBEq, Nat.reduceAdd, Nat.reduceLeDiff, Nat.reduceEqDiff, Nat.reduceLT, Nat.reduceMul]; (repeat (with_reducible refine And.intro (by first | omega | assumption | rfl) ?_)))
  generalize hT : St.set _ S.next _ = T
  have tk : T.ob k = some (.box 87 [.sl own (l.map encO)]) := by subst hT; (first | (simp (disch := first | decide | omega | (simp only [add_next, set_next, grow_next, leave_next, drop_next, List.length_map]; first | done | omega)) only [go_sem, ↓reduceIte, Nat.reduceBEq, Nat.reduceAdd, Nat.reduceLeDiff, Nat.reduceEqDiff, Nat.reduceLT, Nat.reduceMul, h1, hk2]; first | done | rfl) | rfl)
  have t0 : T.ob S.next = some (.box 53 (opCs .no o)) := by subst hT; (first | (simp (disch := first | decide | omega | (simp only [add_next, set_next, grow_next, leave_next, drop_next, List.length_map]; first | done | omega)) only [go_sem, ↓reduceIte, Nat.reduceBEq, Nat.reduceAdd, Nat.reduceLeDiff, Nat.reduceEqDiff, Nat.reduceLT, Nat.reduceMul, opCs]; first | done | rfl) | rfl)
  have tn : T.next = S.next + 2 := by subst hT; rfl
  have tb : ∀ j o', j ≠ k → S.ob j = some o' → T.ob j = some o' := fun j o' hj e => by
    have := hS.lt e
    subst hT
    show (if j = S.next then _ else (S.add _).ob j) = _
    rw [if_neg (by omega), add_ob, if_neg (by omega), e]
  have hTw : T.WF := by subst hT; exact St.WF.set (fun j hj => by show (S.add _).ob j = none; have hj' : S.next + 1 + 1 ≤ j := hj; rw [add_ob, if_neg (by omega)]; exact hS j (by omega)) (by show S.next < S.next + 1 + 1; omega) _
  clear hT
  have hk3 : k ≠ T.next := by omega
  have hk4 : S.next ≠ T.next := by omega
  refine ddraw_any (fun T' => T'.ob k = some (.box 87 [.sl own (l.map encO)]) ∧ T'.ob S.next = some (.box 53 (opCs .no o))) 8 (by (first | (simp (disch := first | decide | omega | (simp only [add_next, set_next, grow_next, leave_next, drop_next, List.length_map]; first | done | omega)) only [go_sem, ↓reduceIte, Nat.reduceBEq, Nat.reduceAdd, Nat.reduceLeDiff, Nat.reduceEqDiff, Nat.reduceLT, Nat.reduceMul, tk, t0]; first | done | rfl) | rfl)) (by kernel_rfl) ?_
  (refine s_take 0 rfl (by kernel_rfl) (by kernel_rfl) (v := ?v1) (fun S' hz => dquietR_of ?h1) ?k1; (case h1 => ((simp (disch := first | decide | omega | (simp only [add_next, set_next, grow_next, leave_next, drop_next, List.length_map]; first | done | omega)) only [go_sem, ↓reduceIte, Nat.reduceBEq, Nat.reduceAdd, Nat.reduceLeDiff, Nat.reduceEqDiff, Nat.reduceLT, Nat.reduceMul, hz]; (repeat (with_reducible refine And.intro (by first | omega | assumption | rfl) ?_))); first | done | exact rfl | omega)); refine s_take 1 rfl (by kernel_rfl) (by kernel_rfl) (v := ?v2) (fun S' hz => dquietR_of ?h2) ?k2; (case h2 => ((simp (disch := first | decide | omega | (simp only [add_next, set_next, grow_next, leave_next, drop_next, List.length_map]; first | done | omega)) only [go_sem, ↓reduceIte, Nat.reduceBEq, Nat.reduceAdd, Nat.reduceLeDiff, Nat.reduceEqDiff, Nat.reduceLT, Nat.reduceMul, hz]; (repeat (with_reducible refine And.intro (by first | omega | assumption | rfl) ?_))); first | done | exact rfl | omega)); refine s_take 2 rfl (by kernel_rfl) (by kernel_rfl) (v := ?v3) (fun S' hz => dquietR_of ?h3) ?k3; (case h3 => ((simp (disch := first | decide | omega | (simp only [add_next, set_next, grow_next, leave_next, drop_next, List.length_map]; first | done | omega)) only [go_sem, ↓reduceIte, Nat.reduceBEq, Nat.reduceAdd, Nat.reduceLeDiff, Nat.reduceEqDiff, Nat.reduceLT, Nat.reduceMul, hz]; (repeat (with_reducible refine And.intro (by first | omega | assumption | rfl) ?_))); first | done | exact rfl | omega)); refine s_take 3 rfl (by kernel_rfl) (by kernel_rfl) (v := ?v4) (fun S' hz => dquietR_of ?h4) ?k4; (case h4 => ((simp (disch := first | decide | omega | (simp only [add_next, set_next, grow_next, leave_next, drop_next, List.length_map]; first | done | omega)) only [go_sem, ↓reduceIte, Nat.reduceBEq, Nat.reduceAdd, Nat.reduceLeDiff, Nat.reduceEqDiff, Nat.reduceLT, Nat.reduceMul, hz]; (repeat (with_reducible refine And.intro (by first | omega | assumption | rfl) ?_))); first | done | exact rfl | omega)); refine s_take 4 rfl (by kernel_rfl) (by kernel_rfl) (v := ?v5) (fun S' hz => dquietR_of ?h5) ?k5; (case h5 => ((simp (disch := first | decide | omega | (simp only [add_next, set_next, grow_next, leave_next, drop_next, List.length_map]; first | done | omega)) only [go_sem, ↓reduceIte, Nat.reduceBEq, Nat.reduceAdd, Nat.reduceLeDiff, Nat.reduceEqDiff, Nat.reduceLT, Nat.reduceMul, hz]; (repeat (with_reducible refine And.intro (by first | omega | assumption | rfl) ?_))); first | done | exact rfl | omega)))
  (refine s_take 5 rfl (by kernel_rfl) (by kernel_rfl) (v := ?v6) (fun S' hz => dquietR_of ?h6) ?k6; (case h6 => ((simp (disch := first | decide | omega | (simp only [add_next, set_next, grow_next, leave_next, drop_next, List.length_map]; first | done | omega)) only [go_sem, ↓reduceIte, Nat.reduceBEq, Nat.reduceAdd, Nat.reduceLeDiff, Nat.reduceEqDiff, Nat.reduceLT, Nat.reduceMul, hz]; (repeat (with_reducible refine And.intro (by first | omega | assumption | rfl) ?_))); first | done | exact rfl | omega)); refine s_take 6 rfl (by kernel_rfl) (by kernel_rfl) (v := ?v7) (fun S' hz => dquietR_of ?h7) ?k7; (case h7 => ((simp (disch := first | decide | omega | (simp only [add_next, set_next, grow_next, leave_next, drop_next, List.length_map]; first | done | omega)) only [go_sem, ↓reduceIte, Nat.reduceBEq, Nat.reduceAdd, Nat.reduceLeDiff, Nat.reduceEqDiff, Nat.reduceLT, Nat.reduceMul, hz]; (repeat (with_reducible refine And.intro (by first | omega | assumption | rfl) ?_))); first | done | exact rfl | omega)))
  (refine s_split [7] (by kernel_rfl) (by simp) ?_; intro j_ hj_; obtain rfl : j_ = 7 := (by simpa using hj_); clear hj_; refine s_op rfl ?_; (simp (disch := first | decide | omega | (simp only [add_next, set_next, grow_next, leave_next, drop_next, List.length_map]; first | done | omega)) only [go_sem, ↓reduceIte, Nat.reduceBEq, Nat.reduceAdd, Nat.reduceLeDiff, Nat.reduceEqDiff, Nat.reduceLT, Nat.reduceMul]; (repeat (with_reducible refine And.intro (by first | omega | assumption | rfl) ?_))))
  rcases h2 with ⟨rfl, rfl⟩ | ⟨g, rfl, hg, h2⟩
  · refine dapp_ops (.inl ⟨rfl, rfl⟩) (by omega) ?_
    refine ⟨⟨by (first | (simp (disch := first | decide | omega | (simp only [add_next, set_next, grow_next, leave_next, drop_next, List.length_map]; first | done | omega)) only [go_sem, ↓reduceIte, Nat.reduceBEq, Nat.reduceAdd, Nat.reduceLeDiff, Nat.reduceEqDiff, Nat.reduceLT, Nat.reduceMul, tk, hk3]; first | done | rfl) | rfl), by (first | (simp (disch := first | decide | omega | (simp only [add_next, set_next, grow_next, leave_next, drop_next, List.length_map]; first | done | omega)) only [go_sem, ↓reduceIte, Nat.reduceBEq, Nat.reduceAdd, Nat.reduceLeDiff, Nat.reduceEqDiff, Nat.reduceLT, Nat.reduceMul, t0, hk4]; first | done | rfl) | rfl)⟩, ?_⟩
    (refine s_done (by kernel_rfl) ?_; (simp (disch := first | decide | omega | (simp only [add_next, set_next, grow_next, leave_next, drop_next, List.length_map]; first | done | omega)) only [go_sem, ↓reduceIte, Nat.reduceBEq, Nat.reduceAdd, Nat.reduceLeDiff, Nat.reduceEqDiff, Nat.reduceLT, Nat.reduceMul, tk, t0, hk3, hk4]; (repeat (with_reducible refine And.intro (by first | omega | assumption | rfl) ?_))))
    refine ⟨⟨.row T.next, by simp [St.set], .inr ⟨T.next, rfl, by omega, ?_⟩⟩, ⟨by simp [St.set, St.grow, St.leave, St.add]; omega, fun j o' hj e => ?_⟩⟩
    · simp [St.grow, St.leave, St.add, St.set, Ne.symm hk3]
    · have hlt := hS.lt e
      have hj : j ≠ k := by rcases hj with h | h; omega; exact h.1
      have := tb j o' hj e
      simp [St.grow, St.leave, St.add, St.set, hj, show j ≠ T.next by omega, this]
  · have hkg : k ≠ g := by omega
    have hgn := hS.lt h2
    have tg := tb g _ (Ne.symm hkg) h2
    have hng : S.next ≠ g := by omega
    refine dapp_ops (.inr ⟨g, rfl, tg⟩) (by omega) ?_
    refine ⟨⟨by (first | (simp (disch := first | decide | omega | (simp only [add_next, set_next, grow_next, leave_next, drop_next, List.length_map]; first | done | omega)) only [go_sem, ↓reduceIte, Nat.reduceBEq, Nat.reduceAdd, Nat.reduceLeDiff, Nat.reduceEqDiff, Nat.reduceLT, Nat.reduceMul, tk, hk3, hkg]; first | done | rfl) | rfl), by (first | (simp (disch := first | decide | omega | (simp only [add_next, set_next, grow_next, leave_next, drop_next, List.length_map]; first | done | omega)) only [go_sem, ↓reduceIte, Nat.reduceBEq, Nat.reduceAdd, Nat.reduceLeDiff, Nat.reduceEqDiff, Nat.reduceLT, Nat.reduceMul, t0, hk4, hng]; first | done | rfl) | rfl)⟩, ?_⟩
    (refine s_done (by kernel_rfl) ?_; (simp (disch := first | decide | omega | (simp only [add_next, set_next, grow_next, leave_next, drop_next, List.length_map]; first | done | omega)) only [go_sem, ↓reduceIte, Nat.reduceBEq, Nat.reduceAdd, Nat.reduceLeDiff, Nat.reduceEqDiff, Nat.reduceLT, Nat.reduceMul, tk, t0, hk3, hk4, hkg, hng]; (repeat (with_reducible refine And.intro (by first | omega | assumption | rfl) ?_))))
    refine ⟨⟨.row T.next, by simp [St.set], .inr ⟨T.next, rfl, by omega, ?_⟩⟩, ⟨by simp [St.set, St.grow, St.leave, St.add, St.drop]; omega, fun j o' hj e => ?_⟩⟩
    · simp [St.grow, St.leave, St.add, St.set, St.drop, Ne.symm hk3]
    · have hlt := hS.lt e
      have hjg : j ≠ g := fun e2 => by
        rcases hj with h | ⟨_, t, cs, rfl⟩
        · omega
        · rw [e2, h2] at e; cases e
      have hj : j ≠ k := by rcases hj with h | h; omega; exact h.1
      have := tb j o' hj e
      simp [St.grow, St.leave, St.add, St.set, St.drop, hj, hjg, show j ≠ T.next by omega, this]
end Go.Proofs.Ytjjhjhjphhpeiaa
