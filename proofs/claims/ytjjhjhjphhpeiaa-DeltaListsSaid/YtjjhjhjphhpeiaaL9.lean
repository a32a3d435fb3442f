/- DeltaLists answers true for any two lists of bytes and any byte, and leaves its arguments as they were. Conditions: none but the statement's own. -/
import Derived.Test.YtjjhjhjphhpeiaaL8
import Derived.Test.YtjjhjhjphhpeiaaRows
set_option linter.unusedVariables false
set_option linter.unusedSimpArgs false
namespace Go.Proofs.Ytjjhjhjphhpeiaa
open Go.RowKit
set_option linter.unusedSimpArgs false
set_option linter.unusedVariables false
/-- The numbers that there are behind so many rounds. -/
structure Now (a b : DVal) (i : Nat) (now : List Nat) : Prop where
  nodup : now.Nodup
  head : now.take i = b.ids.take i
  mem : ∀ x, x ∈ now ↔ x ∈ b.ids ∧ (x ∈ a.ids ∨ x ∈ b.ids.take i)
theorem Now.len {a b : DVal} {i : Nat} {now : List Nat} (h : Now a b i now) (hi : i ≤ b.ids.length) : i ≤ now.length := by
  have := congrArg List.length h.head
  rw [List.length_take, List.length_take] at this
  omega
theorem nodup_sub_len : ∀ {l m : List Nat}, l.Nodup → (∀ x ∈ l, x ∈ m) → l.length ≤ m.length
  | [], m, _, _ => Nat.zero_le _
  | x :: l, m, hn, h => by
    obtain ⟨h1, h2⟩ := List.nodup_cons.1 hn
    have hx : x ∈ m := h x (by simp)
    have := nodup_sub_len (l := l) (m := m.erase x) h2 fun y hy => (List.mem_erase_of_ne (fun e : y = x => h1 (by rw [← e]; exact hy))).2 (h y (by simp [hy]))
    rw [List.length_erase_of_mem hx] at this
    have := List.length_pos_of_mem hx
    simp only [List.length_cons]; omega
theorem Now.most {a b : DVal} {i : Nat} {now : List Nat} (h : Now a b i now) : now.length ≤ b.ids.length := nodup_sub_len h.nodup fun x hx => ((h.mem x).1 hx).1
theorem Now.zero {a b : DVal} (hn : a.ids.Nodup) : Now a b 0 (a.ids.filter (fun id => decide (id ∈ b.ids))) :=
  ⟨hn.filter _, by simp, fun x => by simp [List.mem_filter, and_comm]⟩
theorem not_take {l : List Nat} (hn : l.Nodup) {i : Nat} (hi : i < l.length) : l[i] ∉ l.take i := fun hm => by
  obtain ⟨j, hj, e⟩ := List.getElem_of_mem hm
  rw [List.length_take] at hj
  rw [List.getElem_take] at e
  exact absurd e (List.pairwise_iff_getElem.1 hn j i (by omega) hi (by omega))
/-- A new one. -/
theorem Now.ins {a b : DVal} {i : Nat} {now : List Nat} (h : Now a b i now) (hn : b.ids.Nodup) (hi : i < b.ids.length) (hx : b.ids[i] ∉ a.ids) : b.ids[i] ∉ now ∧ Now a b (i + 1) (now.take i ++ [b.ids[i]] ++ now.drop i) := by
  have hni : b.ids[i] ∉ now := fun hm => by
    rcases ((h.mem _).1 hm).2 with h1 | h1
    · exact hx h1
    · exact not_take hn hi h1
  have hl := h.len (by omega)
  refine ⟨hni, ⟨(perm_ins now b.ids[i] i).nodup_iff.2 (List.nodup_cons.2 ⟨hni, h.nodup⟩), ?_, fun x => ?_⟩⟩
  · have h1 : (now.take i ++ [b.ids[i]]).length = i + 1 := by rw [List.length_append, List.length_take]; simp; omega
    rw [List.take_succ_eq_append_getElem hi, ← h.head, ← h1, List.take_left]
  · rw [(perm_ins now b.ids[i] i).mem_iff, List.mem_cons, h.mem, List.take_succ_eq_append_getElem hi, List.mem_append, List.mem_singleton]
    constructor
    · rintro (e | ⟨e1, e2⟩)
      · subst e; exact ⟨List.getElem_mem hi, .inr (.inr rfl)⟩
      · exact ⟨e1, e2.imp_right .inl⟩
    · rintro ⟨e1, e2 | e2 | e2⟩
      · exact .inr ⟨e1, .inl e2⟩
      · exact .inr ⟨e1, .inr e2⟩
      · exact .inl e2
theorem nd_inj {l : List Nat} (hn : l.Nodup) {i j : Nat} (hi : i < l.length) (hj : j < l.length) (e : l[i] = l[j]) : i = j := by
  have hp := List.pairwise_iff_getElem.1 hn
  rcases Nat.lt_trichotomy i j with h | h | h
  · exact absurd e (hp i j hi hj h)
  · exact h
  · exact absurd e.symm (hp j i hj hi h)
/-- One that is moved. -/
theorem Now.move {a b : DVal} {i : Nat} {now : List Nat} (h : Now a b i now) (hn : b.ids.Nodup) (hi : i < b.ids.length) (hx : b.ids[i] ∈ a.ids) :
    b.ids[i] ∈ now ∧ i ≤ ixN now b.ids[i] ∧ (now.take (ixN now b.ids[i]) ++ now.drop (ixN now b.ids[i] + 1)).take i = b.ids.take i ∧
    Now a b i ((now.take (ixN now b.ids[i]) ++ now.drop (ixN now b.ids[i] + 1)).take i ++ [b.ids[i]] ++ (now.take (ixN now b.ids[i]) ++ now.drop (ixN now b.ids[i] + 1)).drop i) ∧
    i ≤ (now.take (ixN now b.ids[i]) ++ now.drop (ixN now b.ids[i] + 1)).length ∧ (now.take (ixN now b.ids[i]) ++ now.drop (ixN now b.ids[i] + 1)).Nodup ∧ (∀ x ∈ now.take (ixN now b.ids[i]) ++ now.drop (ixN now b.ids[i] + 1), x ∈ now) := by
  have hm : b.ids[i] ∈ now := (h.mem _).2 ⟨List.getElem_mem hi, .inl hx⟩
  have hk := ix_lt hm
  have hl := h.len (by omega)
  have hge : now[ixN now b.ids[i]] = b.ids[i] := List.getElem_idxOf hk
  generalize hkk : ixN now b.ids[i] = k at *
  have hik : i ≤ k := by
    by_cases hc : i ≤ k
    · exact hc
    · exfalso
      have hmem : now[k] ∈ now.take i := by
        have : (now.take i)[k]'(by rw [List.length_take]; omega) = now[k] := List.getElem_take
        rw [← this]; exact List.getElem_mem _
      rw [hge, h.head] at hmem
      exact not_take hn hi hmem
  have he : now.take k ++ now.drop (k + 1) = now.eraseIdx k := List.eraseIdx_eq_take_drop_succ .. |>.symm
  have hp : (now[k] :: (now.take k ++ now.drop (k + 1))).Perm now := by
    have h1 : now = now.take k ++ now[k] :: now.drop (k + 1) := by rw [← List.drop_eq_getElem_cons hk, List.take_append_drop]
    refine List.perm_middle.symm.trans ?_
    rw [← h1]
  have htk : (now.take k ++ now.drop (k + 1)).take i = b.ids.take i := by
    rw [List.take_append_of_le_length (by rw [List.length_take]; omega), List.take_take, Nat.min_eq_left hik, h.head]
  have hll : (now.take k ++ now.drop (k + 1)).length = now.length - 1 := by
    rw [he, List.length_eraseIdx, if_pos hk]
  have hsub : (now.take k ++ now.drop (k + 1)).Sublist now := by rw [he]; exact List.eraseIdx_sublist _ _
  generalize now.take k ++ now.drop (k + 1) = m at *
  rw [hge] at hp
  have hq : (m.take i ++ [b.ids[i]] ++ m.drop i).Perm now := (perm_ins m b.ids[i] i).trans hp
  refine ⟨hm, hik, htk, ⟨hq.nodup_iff.2 h.nodup, ?_, fun x => by rw [hq.mem_iff]; exact h.mem x⟩, by omega, hsub.nodup h.nodup, hsub.subset⟩
  have h1 : (m.take i).length = i := by rw [List.length_take]; omega
  rw [← htk, List.append_assoc, List.take_append_of_le_length (by omega), List.take_take, Nat.min_self]
/-- One that stands. -/
theorem Now.stay {a b : DVal} {i : Nat} {now : List Nat} (h : Now a b i now) (hi : i < b.ids.length) (hx : b.ids[i] ∈ a.ids) (hl : i < now.length) (he : now[i] = b.ids[i]) : Now a b (i + 1) now := by
  refine ⟨h.nodup, by rw [List.take_succ_eq_append_getElem hi, List.take_succ_eq_append_getElem hl, h.head, he], fun x => ?_⟩
  rw [h.mem, List.take_succ_eq_append_getElem hi, List.mem_append, List.mem_singleton]
  constructor
  · rintro ⟨e1, e2 | e2⟩
    · exact ⟨e1, .inl e2⟩
    · exact ⟨e1, .inr (.inl e2)⟩
  · rintro ⟨e1, e2 | e2 | e2⟩
    · exact ⟨e1, .inl e2⟩
    · exact ⟨e1, .inr e2⟩
    · subst e2; exact ⟨e1, .inl hx⟩
theorem Now.zero_not {a b : DVal} {i : Nat} {now : List Nat} (h : Now a b i now) (h0 : 0 ∉ b.ids) : 0 ∉ now := fun hm => h0 ((h.mem 0).1 hm).1
/-- The parts of the other one, one more. -/
theorem mixG_succ {a b : DVal} {i : Nat} (hi : i < b.ids.length) {x : Nat} (hx : x ≠ b.ids[i] ∨ x ∉ a.ids) : mixG a b i x = mixG a b (i + 1) x := by
  have h : (x ∈ a.ids ∧ x ∉ b.ids.take i) ↔ (x ∈ a.ids ∧ x ∉ b.ids.take (i + 1)) := by
    rw [List.take_succ_eq_append_getElem hi, List.mem_append, List.mem_singleton]
    rcases hx with e | e
    · simp [e]
    · simp [e]
  by_cases hc : x ∈ a.ids ∧ x ∉ b.ids.take i
  · rw [mixG, mixG, if_pos hc, if_pos (h.1 hc)]
  · rw [mixG, mixG, if_neg hc, if_neg fun g => hc (h.2 g)]
theorem Now.gv {a b : DVal} {t : DSch} {i : Nat} {now : List Nat} (h : Now a b i now) (ga : GV a t) (gb : GV b t) (ht : RS t) (h6 : t.kind = 6) {m : List Nat} (hm : m.Nodup) (hs : ∀ x ∈ m, x ∈ now) : GV (aL a m (mixG a b i)) t := by
  have hl := gb.list h6
  have h1 := nodup_sub_len hm hs
  have h2 := h.most
  have h3 := hl.most
  refine ga.aL ht h6 hm (fun h0 => h.zero_not hl.zero (hs _ h0)) (by omega) fun x hx => ?_
  unfold mixG
  split
  · rename_i hc; exact ga.pOf h6 hc.1
  · exact gb.pOf h6 ((h.mem x).1 (hs x hx)).1
/-- The step to an element. -/
theorem elem_step {L : DVal} {t : DSch} (hL : GV L t) (ht : RS t) (h6 : t.kind = 6) {i : Nat} (hi : i < L.ids.length) : stepT t ([], L.ids[i]) = some (t.parts.getD 0 default) ∧ inP L ([], L.ids[i]) ∧ plN L ([], L.ids[i]) = i ∧ fineB ([], L.ids[i]) = true := by
  have hl := hL.list h6
  have hip : i < L.parts.length := by have := hl.len; omega
  have hs := place_step hL.rv hip
  have hst : stepV L i = ([], L.ids[i]) := by
    unfold stepV
    rw [if_neg (by have := hl.kind; omega), getD_at hi]
  rw [hst] at hs
  have h0 : L.ids[i] ≠ 0 := fun e => hl.zero (by rw [← e]; exact List.getElem_mem hi)
  have hp := ht.here.2 h6
  refine ⟨?_, ⟨by rw [hs]; omega, by rw [hs]; omega⟩, by unfold plN; rw [hs]; simp, ?_⟩
  · rw [stepT, if_pos rfl, if_pos ⟨h6, h0, by omega⟩]
  · unfold fineB
    have : ((L.ids[i] : Int) == 0) = false := by simpa using h0
    simp [this]
/-- The part of one that stands in its place. -/
theorem lead_part {k : Nat} (ih : LeadAt k) {s t : DSch} {v a b : DVal} {p : List DStp} {i : Nat} {now : List Nat} (h6 : t.kind = 6) (hd : a.depth ≤ k + 1) (h : At s v p t a) (hb : GV b t) (hN : Now a b i now) (hi : i < b.ids.length) (hx : b.ids[i] ∈ a.ids) (hl : i < now.length) (he : now[i] = b.ids[i]) :
    Leads s (chV (fun _ => aL a now (mixG a b i)) p v) (dOps k (p ++ [([], b.ids[i])]) (pOf a b.ids[i]) (b.parts.getD i default)) (chV (fun _ => aL a now (mixG a b (i + 1))) p v) := by
  obtain ⟨ga, hRt, _⟩ := h.ga
  have hbl := hb.list h6
  have hal := ga.list h6
  have gm := hN.gv ga hb hRt h6 hN.nodup fun x hx => hx
  have hA := h.put gm
  obtain ⟨e1, e2, e3, e4⟩ := elem_step (L := aL a now (mixG a b i)) gm hRt h6 (i := i) hl
  have hid : (aL a now (mixG a b i)).ids[i]'hl = b.ids[i] := he
  rw [hid] at e1 e2 e3 e4
  obtain ⟨hi', hS, hC⟩ := hA.sub e1 e2 e4
  have hnt : b.ids[i] ∉ b.ids.take i := not_take hbl.nodup hi
  have hpe : (aL a now (mixG a b i)).parts[plN (aL a now (mixG a b i)) ([], b.ids[i])] = pOf a b.ids[i] := by
    simp only [e3]
    show (now.map (mixG a b i))[i]'(by rw [List.length_map]; exact hl) = _
    rw [List.getElem_map, he]
    unfold mixG
    rw [if_pos ⟨hx, hnt⟩]
  rw [hpe] at hS
  have hda : (pOf a b.ids[i]).depth ≤ k := by
    have hk : ixN a.ids b.ids[i] < a.parts.length := by rw [hal.len]; exact ix_lt hx
    rw [pOf, getD_at hk]
    have := DVal.depth_part (List.getElem_mem hk)
    omega
  have hbi : i < b.parts.length := by have := hbl.len; omega
  have hgb : GV (b.parts.getD i default) (t.parts.getD 0 default) := by rw [getD_at hbi]; exact hbl.parts _ (List.getElem_mem hbi)
  have hL := ih s _ _ _ _ _ hda hS hgb
  rw [hC, chV_twice p h.get] at hL
  have e5 : (aL a now (mixG a b i)).withParts ((aL a now (mixG a b i)).parts.set (plN (aL a now (mixG a b i)) ([], b.ids[i])) (b.parts.getD i default)) = aL a now (mixG a b (i + 1)) := by
    rw [e3]
    show DVal.ofList a now ((now.map (mixG a b i)).set i (b.parts.getD i default)) = DVal.ofList a now (now.map (mixG a b (i + 1)))
    congr 1
    refine List.ext_getElem (by simp) fun j h1 h2 => ?_
    rw [List.getElem_set, List.getElem_map]
    have hj : j < now.length := by simpa using h2
    by_cases hij : i = j
    · subst hij
      rw [if_pos rfl, List.getElem_map, he]
      unfold mixG
      rw [if_neg (fun hc => hc.2 (by rw [List.take_succ_eq_append_getElem hi]; exact List.mem_append_right _ (List.mem_singleton.2 rfl))), pOf, ix_of hbl.nodup hi]
    · rw [if_neg hij, List.getElem_map]
      refine mixG_succ hi (.inl fun e => hij ?_)
      rw [← he] at e
      exact (nd_inj hN.nodup hj hl e).symm
  rw [e5] at hL
  exact hL
theorem shape_list {v : DVal} {t : DSch} (h : GV v t) (h6 : t.kind = 6) : v.n = 0 ∧ v.s = [] := by
  obtain ⟨b1, b2, b3, b4⟩ := here_parts h.here_
  have hk : v.kind = 6 := h.kind.trans h6
  unfold bad1 at b1
  unfold bad2 at b2
  exact ⟨by omega, List.eq_nil_of_length_eq_zero (by omega)⟩
theorem getD_ge {α : Type} {l : List α} {i : Nat} {d : α} (h : l.length ≤ i) : l.getD i d = d := by rw [List.getD_eq_getElem?_getD, List.getElem?_eq_none h]; rfl
/-- The one ahead. -/
theorem ahead_eq {b : DVal} {i : Nat} {m : List Nat} (hi : i ≤ b.ids.length) (hm : m.take i = b.ids.take i) : (if i = 0 then 0 else b.ids.getD (i - 1) 0) = (if i = 0 then 0 else m.getD (i - 1) 0) := by
  split
  · rfl
  · rename_i h
    have h1 := congrArg (fun l => l.getD (i - 1) 0) hm
    simp only [List.getD_eq_getElem?_getD] at h1
    rw [List.getElem?_take_of_lt (by omega), List.getElem?_take_of_lt (by omega)] at h1
    rw [List.getD_eq_getElem?_getD, List.getD_eq_getElem?_getD, h1]
theorem ahead_ne {b : DVal} {i : Nat} (hi : i < b.ids.length) (hn : b.ids.Nodup) (h0 : 0 ∉ b.ids) : b.ids[i] ≠ (if i = 0 then 0 else b.ids.getD (i - 1) 0) := by
  split
  · intro e; exact h0 (by rw [← e]; exact List.getElem_mem hi)
  · rename_i h
    rw [getD_at (show i - 1 < b.ids.length by omega)]
    intro e
    have := nd_inj hn hi (by omega) e
    omega
/-- One round. -/
theorem lead_round {k : Nat} (ih : LeadAt k) {s t : DSch} {v a b : DVal} {p : List DStp} {i : Nat} {now : List Nat} (h6 : t.kind = 6) (hd : a.depth ≤ k + 1) (h : At s v p t a) (hb : GV b t) (hN : Now a b i now) (hi : i < b.ids.length) :
    Now a b (i + 1) (lsRound (dOps k) p a b i now).2 ∧ Leads s (chV (fun _ => aL a now (mixG a b i)) p v) (lsRound (dOps k) p a b i now).1 (chV (fun _ => aL a (lsRound (dOps k) p a b i now).2 (mixG a b (i + 1))) p v) := by
  obtain ⟨ga, hRt, _⟩ := h.ga
  have hbl := hb.list h6
  have hal := ga.list h6
  have gm := hN.gv ga hb hRt h6 hN.nodup fun x hx => hx
  have hA := h.put gm
  have hne := ahead_ne hi hbl.nodup hbl.zero
  have hz : b.ids[i] ≠ 0 := fun e => hbl.zero (by rw [← e]; exact List.getElem_mem hi)
  unfold lsRound
  rw [getD_at hi]
  by_cases hx : b.ids[i] ∈ a.ids
  · rw [if_neg (by simpa using hx)]
    by_cases hc : now.getD i 0 = b.ids[i]
    · rw [if_neg (by simpa using hc)]
      have hl : i < now.length := by
        by_cases hh : i < now.length
        · exact hh
        · rw [getD_ge (by omega)] at hc
          exact absurd hc.symm hz
      have he : now[i] = b.ids[i] := by rwa [getD_at hl] at hc
      exact ⟨hN.stay hi hx hl he, lead_part ih h6 hd h hb hN hi hx hl he⟩
    · rw [if_pos hc]
      obtain ⟨hm, hik, htk, hN', hll, hnd, hsub⟩ := hN.move hbl.nodup hi hx
      have hM := hA.move h6 (id := b.ids[i]) hm hne
      have hk := ix_lt hm
      have hpx : (aL a now (mixG a b i)).parts.getD (ixN (aL a now (mixG a b i)).ids b.ids[i]) default = mixG a b i b.ids[i] := by
        show (now.map (mixG a b i)).getD (ixN now b.ids[i]) default = _
        rw [getD_at (by rw [List.length_map]; exact hk), List.getElem_map]
        congr 1
        exact List.getElem_idxOf hk
      rw [hpx, tkV_aL, plV_aL rfl, chV_twice p h.get] at hM
      have hixe : ixN (aL a now (mixG a b i)).ids b.ids[i] = ixN now b.ids[i] := rfl
      rw [hixe] at hM
      have hlen' : ((now.take (ixN now b.ids[i]) ++ now.drop (ixN now b.ids[i] + 1)).take i ++ [b.ids[i]] ++ (now.take (ixN now b.ids[i]) ++ now.drop (ixN now b.ids[i] + 1)).drop i).length = (now.take (ixN now b.ids[i]) ++ now.drop (ixN now b.ids[i] + 1)).length + 1 := (perm_ins _ _ _).length_eq
      have hti : ((now.take (ixN now b.ids[i]) ++ now.drop (ixN now b.ids[i] + 1)).take i).length = i := by rw [List.length_take]; omega
      generalize now.take (ixN now b.ids[i]) ++ now.drop (ixN now b.ids[i] + 1) = m at *
      have hpk : plK (aL a m (mixG a b i)) (if i = 0 then 0 else b.ids.getD (i - 1) 0) = i := by
        rw [ahead_eq (m := m) (by omega) htk]
        exact plK_at (L := aL a m (mixG a b i)) hnd (fun h0 => hN.zero_not hbl.zero (hsub _ h0)) hll
      rw [hpk] at hM
      have hl' : i < (m.take i ++ [b.ids[i]] ++ m.drop i).length := by omega
      have he' : (m.take i ++ [b.ids[i]] ++ m.drop i)[i] = b.ids[i] := by
        rw [List.getElem_append_left (by rw [List.length_append, hti]; simp), List.getElem_append_right (by omega)]
        simp [hti]
      refine ⟨hN'.stay hi hx hl' he', ?_⟩
      exact Leads.app (Leads.one hM) (lead_part ih h6 hd h hb hN' hi hx hl' he')
  · rw [if_pos hx]
    obtain ⟨hni, hN'⟩ := hN.ins hbl.nodup hi hx
    have h12 := hN'.most
    have hll := hN.len (by omega)
    rw [(perm_ins now b.ids[i] i).length_eq, List.length_cons] at h12
    have hbi : i < b.parts.length := by have := hbl.len; omega
    have hI := hA.ins h6 (id := b.ids[i]) (x := b.parts.getD i default) hni hz hne (by have := hbl.most; show now.length < 12; omega) (by rw [getD_at hbi]; exact hbl.parts _ (List.getElem_mem hbi))
    have hgx : mixG a b i b.ids[i] = b.parts.getD i default := by
      unfold mixG
      rw [if_neg (fun hc => hx hc.1), pOf, ix_of hbl.nodup hi]
    rw [plV_aL hgx, chV_twice p h.get] at hI
    have hpk : plK (aL a now (mixG a b i)) (if i = 0 then 0 else b.ids.getD (i - 1) 0) = i := by
      rw [ahead_eq (m := now) (by omega) hN.head]
      exact plK_at (L := aL a now (mixG a b i)) hN.nodup (hN.zero_not hbl.zero) hll
    rw [hpk] at hI
    refine ⟨hN', ?_⟩
    rw [← aL_congr (a := a) (g := mixG a b i) (g' := mixG a b (i + 1)) fun x hxm => ?_]
    · exact Leads.one hI
    · refine mixG_succ hi ?_
      by_cases e : x = b.ids[i]
      · exact .inr (by rw [e]; exact hx)
      · exact .inl e
/-- All rounds. -/
theorem lead_rounds {k : Nat} (ih : LeadAt k) {s t : DSch} {v a b : DVal} {p : List DStp} (h6 : t.kind = 6) (hd : a.depth ≤ k + 1) (h : At s v p t a) (hb : GV b t) : ∀ i, i ≤ b.ids.length →
    Now a b i (lsOps (dOps k) p a b i).2 ∧ Leads s v (lsOps (dOps k) p a b i).1 (chV (fun _ => aL a (lsOps (dOps k) p a b i).2 (mixG a b i)) p v)
  | 0, _ => by
    have hal := h.ga.1.list h6
    refine ⟨Now.zero hal.nodup, ?_⟩
    have := lead_dels (b := b) h6 h a.ids.length (Nat.le_refl _)
    rw [List.take_length, List.drop_length, List.append_nil] at this
    show Leads s v (lsDel p a b) (chV (fun _ => aL a (a.ids.filter (fun id => decide (id ∈ b.ids))) (mixG a b 0)) p v)
    rw [aL_congr (g := mixG a b 0) (g' := pOf a) fun x hx => ?_]
    · exact this
    · unfold mixG
      rw [if_pos ⟨(List.mem_filter.1 hx).1, by simp⟩]
  | i + 1, hi => by
    obtain ⟨h1, h2⟩ := lead_rounds ih h6 hd h hb i (by omega)
    obtain ⟨h3, h4⟩ := lead_round ih h6 hd h hb h1 (by omega)
    exact ⟨h3, h2.app h4⟩
theorem lead_list {k : Nat} (ih : LeadAt k) {s t : DSch} {v a b : DVal} {p : List DStp} (h6 : t.kind = 6) (hd : a.depth ≤ k + 1) (h : At s v p t a) (hb : GV b t) : Leads s v (lsOps (dOps k) p a b b.ids.length).1 (chV (fun _ => b) p v) := by
  obtain ⟨h1, h2⟩ := lead_rounds ih h6 hd h hb b.ids.length (Nat.le_refl _)
  have hbl := hb.list h6
  have hal := h.ga.1.list h6
  have hm := h1.most
  have hh := h1.head
  rw [List.take_length] at hh
  have hnow : (lsOps (dOps k) p a b b.ids.length).2 = b.ids := by
    have := List.take_of_length_le hm
    rw [hh] at this
    exact this.symm
  rw [hnow, mixG_end hbl.nodup hbl.len] at h2
  have hab : aL a b.ids (pOf b) = b := by
    have h5 : aL b b.ids (pOf b) = b := aL_self hbl.nodup hbl.len
    refine Eq.trans ?_ h5
    unfold aL DVal.ofList
    have ha1 := shape_list h.ga.1 h6
    have hb1 := shape_list hb h6
    rw [hal.kind, hbl.kind, hal.names, hbl.names, ha1.1, hb1.1, ha1.2, hb1.2]
  rw [hab] at h2
  exact h2
end Go.Proofs.Ytjjhjhjphhpeiaa

namespace Go.Proofs.Ytjjhjhjphhpeiaa
open Go.RowKit
set_option linter.unusedSimpArgs false
set_option linter.unusedVariables false
theorem dOps_same {k : Nat} {p : List DStp} {a : DVal} : dOps k p a a = [] := by
  cases k with
  | zero => rfl
  | succ k => rw [dOps, if_pos (eqB_true rfl)]
theorem leadAt : ∀ k, LeadAt k
  | 0 => fun s t v a b p hd h hb => by have := a.depth_pos; omega
  | k + 1 => fun s t v a b p hd h hb => by
    by_cases he : a = b
    · subst he
      rw [dOps_same, chV_same p h.get]
      exact Leads.nil s v
    · rw [dOps, if_neg (by rw [eqB_false he]; simp)]
      have hk := h.ga.1.kind
      by_cases h5 : a.kind = 5
      · rw [if_pos h5]; exact lead_rec (leadAt k) (by omega) hd h hb
      · rw [if_neg h5]
        by_cases h6 : a.kind = 6
        · rw [if_pos h6]; exact lead_list (leadAt k) (by omega) hd h hb
        · rw [if_neg h6]; exact Leads.one (h.set hb)
/-- From the top. -/
theorem leads_top {s : DSch} {a b : DVal} (hs : rightS 5 s = true) (ha : GV a s) (hb : GV b s) {k : Nat} (hk : a.depth ≤ k) : Leads s a (dOps k [] a b) b :=
  leadAt k s s a a b [] hk ⟨hs, ha, rfl, rfl, rfl⟩ hb
end Go.Proofs.Ytjjhjhjphhpeiaa

namespace Go.Proofs.Ytjjhjhjphhpeiaa
open Go.RowKit
set_option linter.unusedSimpArgs false
set_option linter.unusedVariables false
/-- At most so many operations for values of a depth. -/
def dMax : Nat → Nat
  | 0 => 0
  | k + 1 => 24 + 12 * dMax k
theorem recd_most {a : DVal} {t : DSch} (ha : GV a t) : a.names.length ≤ 8 ∧ a.ids.length ≤ 12 := by
  obtain ⟨b1, b2, b3, b4⟩ := here_parts ha.here_
  unfold bad2 at b2
  exact ⟨by omega, by omega⟩
def LenAt (k : Nat) : Prop := ∀ (t : DSch) (p : List DStp) (a b : DVal), GV a t → GV b t → RS t → (dOps k p a b).length ≤ dMax k
theorem len_rec {k : Nat} (ih : LenAt k) {t : DSch} {p : List DStp} {a b : DVal} (h5 : t.kind = 5) (ha : GV a t) (hb : GV b t) (ht : RS t) : ∀ i, i ≤ a.names.length →
    ((List.range i).flatMap fun i => dOps k (p ++ [(a.names.getD i [], 0)]) (a.parts.getD i default) (b.parts.getD i default)).length ≤ i * dMax k
  | 0, _ => by simp
  | i + 1, hi => by
    have h1 := len_rec ih (p := p) h5 ha hb ht i (by omega)
    have r1 := ha.recd h5
    have r2 := hb.recd h5
    have hai : i < a.parts.length := by have := r1.len; omega
    have hbi : i < b.parts.length := by have h1 := r2.len; have h2 := r1.len; have h3 := r1.names; have h4 := r2.names; rw [h4, ← h3] at h1; omega
    have g1 := ih (t.parts.getD (atF t i) default) (p ++ [(a.names.getD i [], 0)]) (a.parts.getD i default) (b.parts.getD i default) (by rw [getD_at hai]; exact ha.part hai) (by rw [getD_at hbi]; exact hb.part hbi) (by rw [getD_at (ha.at_ hai)]; exact ht.part (List.getElem_mem _))
    rw [List.range_succ, List.flatMap_append, List.flatMap_cons, List.flatMap_nil, List.append_nil, List.length_append, Nat.succ_mul]
    omega
theorem len_round {k : Nat} (ih : LenAt k) {t : DSch} {p : List DStp} {a b : DVal} (h6 : t.kind = 6) (ha : GV a t) (hb : GV b t) (ht : RS t) {i : Nat} (hi : i < b.ids.length) (now : List Nat) : (lsRound (dOps k) p a b i now).1.length ≤ 1 + dMax k := by
  have hbl := hb.list h6
  have hbi : i < b.parts.length := by have := hbl.len; omega
  have hpt : 0 < t.parts.length := by have := ht.here.2 h6; omega
  unfold lsRound
  by_cases hx : b.ids.getD i 0 ∈ a.ids
  · have hg := ih (t.parts.getD 0 default) (p ++ [([], b.ids.getD i 0)]) (a.parts.getD (ixN a.ids (b.ids.getD i 0)) default) (b.parts.getD i default) (ha.pOf h6 hx) (by rw [getD_at hbi]; exact hbl.parts _ (List.getElem_mem hbi)) (by rw [getD_at hpt]; exact ht.part (List.getElem_mem hpt))
    rw [if_neg (by simpa using hx)]
    split
    · simp only [List.length_cons]; omega
    · simp only []; omega
  · rw [if_pos hx]
    simp only [List.length_cons, List.length_nil]; omega
theorem len_list {k : Nat} (ih : LenAt k) {t : DSch} {p : List DStp} {a b : DVal} (h6 : t.kind = 6) (ha : GV a t) (hb : GV b t) (ht : RS t) : ∀ i, i ≤ b.ids.length → (lsOps (dOps k) p a b i).1.length ≤ 12 + i * (1 + dMax k)
  | 0, _ => by
    have h1 := (recd_most ha).2
    have h2 : (a.ids.filter (fun id => decide (id ∉ b.ids))).length ≤ a.ids.length := List.length_filter_le _ _
    show (lsDel p a b).length ≤ _
    rw [lsDel, List.length_map]; omega
  | i + 1, hi => by
    have h1 := len_list ih (p := p) h6 ha hb ht i (by omega)
    have h2 := len_round ih (p := p) h6 ha hb ht (i := i) (by omega) (lsOps (dOps k) p a b i).2
    show ((lsOps (dOps k) p a b i).1 ++ (lsRound (dOps k) p a b i (lsOps (dOps k) p a b i).2).1).length ≤ _
    rw [List.length_append, Nat.succ_mul]
    omega
theorem lenAt : ∀ k, LenAt k
  | 0 => fun t p a b ha hb ht => Nat.le_refl _
  | k + 1 => fun t p a b ha hb ht => by
    rw [dOps, dMax]
    have hk := ha.kind
    obtain ⟨m1, m2⟩ := recd_most ha
    obtain ⟨m3, m4⟩ := recd_most hb
    split
    · simp
    · split
      · have h1 := len_rec (lenAt k) (p := p) (by omega) ha hb ht a.names.length (Nat.le_refl _)
        have h2 : a.names.length * dMax k ≤ 8 * dMax k := Nat.mul_le_mul_right _ m1
        omega
      · split
        · have h1 := len_list (lenAt k) (p := p) (by omega) ha hb ht b.ids.length (Nat.le_refl _)
          have h2 : b.ids.length * (1 + dMax k) ≤ 12 * (1 + dMax k) := Nat.mul_le_mul_right _ m4
          omega
        · simp; omega
end Go.Proofs.Ytjjhjhjphhpeiaa

namespace Go.Proofs.Ytjjhjhjphhpeiaa
open Go.RowKit
set_option linter.unusedSimpArgs false
set_option linter.unusedVariables false
def OkAt (k : Nat) : Prop := ∀ (t : DSch) (p : List DStp) (a b : DVal), GV a t → GV b t → RS t → okV a → okV b → b.weight ≤ 1000 → p.length + k ≤ 1000 → (∀ q ∈ p, q.1.length ≤ maxLen) → ∀ o ∈ dOps k p a b, OkO o
theorem u64_nil : U64 ((0 : Nat) : Int) := rfl
theorem okV_zero : okV zeroV := (okV_eq _).2 ⟨i64_0, i64_0, by simp [zeroV, DVal.s], by simp [zeroV, DVal.names], by simp [zeroV, DVal.names], by simp [zeroV, DVal.ids], by simp [zeroV, DVal.ids], by simp [zeroV, DVal.parts], by simp [zeroV, DVal.parts]⟩
theorem okAt : ∀ k, OkAt k
  | 0 => fun t p a b ha hb ht hoa hob hw hp hn o ho => by cases ho
  | k + 1 => fun t p a b ha hb ht hoa hob hw hp hn o ho => by
    have hk := ha.kind
    obtain ⟨a1, a2, a3, a4, a5, a6, a7, a8, a9⟩ := (okV_eq a).1 hoa
    obtain ⟨b1, b2, b3, b4, b5, b6, b7, b8, b9⟩ := (okV_eq b).1 hob
    have kI : ∀ n : Int, 0 ≤ n → n ≤ 4 → I64 n := fun n h1 h2 => WalkArith.wf_i64 (by omega)
    rw [dOps] at ho
    split at ho
    · cases ho
    split at ho
    · rename_i h5
      obtain ⟨i, hi, ho⟩ := List.mem_flatMap.1 ho
      rw [List.mem_range] at hi
      have r1 := ha.recd (by omega)
      have r2 := hb.recd (by omega)
      have hai : i < a.parts.length := by have := r1.len; omega
      have hbi : i < b.parts.length := by have h1 := r2.len; have h2 := r1.len; have h3 := r1.names; have h4 := r2.names; rw [h4, ← h3] at h1; omega
      have hbm := List.getElem_mem hbi
      have hwb := DVal.weight_part hbm
      rw [getD_at hai, getD_at hbi] at ho
      refine okAt k (t.parts.getD (atF t i) default) (p ++ [(a.names.getD i [], 0)]) _ _ (ha.part hai) (hb.part hbi) (by rw [getD_at (ha.at_ hai)]; exact ht.part (List.getElem_mem _)) (a9 _ (List.getElem_mem hai)) (b9 _ hbm) (by omega) (by simp; omega) (fun q hq => ?_) o ho
      rcases List.mem_append.1 hq with hq | hq
      · exact hn q hq
      · rw [List.mem_singleton] at hq; subst hq
        show (a.names.getD i []).length ≤ maxLen
        rw [getD_at hi]; exact a4 _ (List.getElem_mem hi)
    split at ho
    · rename_i h6
      have hbl := hb.list (by omega)
      have hpt : 0 < t.parts.length := by have := ht.here.2 (by omega); omega
      suffices h : ∀ i, i ≤ b.ids.length → ∀ o ∈ (lsOps (dOps k) p a b i).1, OkO o from h _ (Nat.le_refl _) o ho
      clear ho o
      intro i
      induction i with
      | zero =>
        intro _ o ho
        obtain ⟨x, hx, rfl⟩ := List.mem_map.1 ho
        exact ⟨by show p.length ≤ 1000; omega, hn, okV_zero, by show zeroV.weight ≤ 1000; rw [zero_wt]; omega, kI 3 (by omega) (by omega), a6 _ (List.mem_filter.1 hx).1, u64_nil⟩
      | succ i ih =>
        intro hi o ho
        rcases List.mem_append.1 ho with ho | ho
        · exact ih (by omega) o ho
        have hbi : i < b.parts.length := by have := hbl.len; omega
        have hbm := List.getElem_mem hbi
        have hwb := DVal.weight_part hbm
        have hU : ∀ j, U64 ((b.ids.getD j 0 : Nat) : Int) := fun j => by
          by_cases hj : j < b.ids.length
          · rw [getD_at hj]; exact b6 _ (List.getElem_mem hj)
          · rw [getD_ge (by omega)]; exact u64_nil
        have hA : U64 ((if i = 0 then 0 else b.ids.getD (i - 1) 0 : Nat) : Int) := by split; exact u64_nil; exact hU _
        unfold lsRound at ho
        have hsub : b.ids.getD i 0 ∈ a.ids → ∀ o ∈ dOps k (p ++ [([], b.ids.getD i 0)]) (a.parts.getD (ixN a.ids (b.ids.getD i 0)) default) (b.parts.getD i default), OkO o := fun hx o ho => by
          have hal := ha.list (by omega)
          have hai : ixN a.ids (b.ids.getD i 0) < a.parts.length := by rw [hal.len]; exact ix_lt hx
          rw [getD_at hai, getD_at hbi] at ho
          refine okAt k (t.parts.getD 0 default) (p ++ [([], b.ids.getD i 0)]) _ _ (hal.parts _ (List.getElem_mem hai)) (hbl.parts _ hbm) (by rw [getD_at hpt]; exact ht.part (List.getElem_mem hpt)) (a9 _ (List.getElem_mem hai)) (b9 _ hbm) (by omega) (by simp; omega) (fun q hq => ?_) o ho
          rcases List.mem_append.1 hq with hq | hq
          · exact hn q hq
          · rw [List.mem_singleton] at hq; subst hq
            simp
        by_cases hx : b.ids.getD i 0 ∈ a.ids
        · rw [if_neg (by simpa using hx)] at ho
          split at ho
          · rcases List.mem_cons.1 ho with e | e
            · subst e
              exact ⟨by show p.length ≤ 1000; omega, hn, okV_zero, by show zeroV.weight ≤ 1000; rw [zero_wt]; omega, kI 4 (by omega) (by omega), hU i, hA⟩
            · exact hsub hx o e
          · exact hsub hx o ho
        · rw [if_pos hx, List.mem_singleton] at ho
          subst ho
          exact ⟨by show p.length ≤ 1000; omega, hn, by show okV (b.parts.getD i default); rw [getD_at hbi]; exact b9 _ hbm, by show (b.parts.getD i default).weight ≤ 1000; rw [getD_at hbi]; omega, kI 2 (by omega) (by omega), hU i, hA⟩
    · rw [List.mem_singleton] at ho
      subst ho
      exact ⟨by show p.length ≤ 1000; omega, hn, hob, hw, kI 1 (by omega) (by omega), u64_nil, u64_nil⟩
end Go.Proofs.Ytjjhjhjphhpeiaa

namespace Go.Proofs.Ytjjhjhjphhpeiaa
open Go.RowKit
set_option linter.unusedSimpArgs false
set_option linter.unusedVariables false
set_option maxRecDepth 200000 in
set_option maxHeartbeats 4000000 in
theorem mval_set {S : St} {k : Nat} {l : List DOp} (own : Own) (p : List DStp) (a b : DVal) (hk : k < S.next) (h : MAt k l S) (hl : l.length ≤ 1000000) (hp : p.length ≤ 1000000) (hoa : okV a) (hob : okV b) (hwa : a.weight ≤ 1000000) (hw : b.weight ≤ 1000000) (h5 : a.kind ≠ 5) (h6 : a.kind ≠ 6) (hne : eqB a b = false) :
    DCalls Try.prog 55 [.loc k 0, .sl own (p.map encP), encV a, encV b] S fun d T => d = undefD ∧ MAt k (l ++ [⟨1, p, 0, 0, b⟩]) T ∧ MFr k S T := by
  refine dcalls_inline mixed Try.func55 rfl (fun _ _ => by kernel_rfl) (rs := []) rfl (by kernel_rfl) (fun hS => ?_)
  have b5 : (a.kind == 5) = false := by simp [h5]
  have b6 : (a.kind == 6) = false := by simp [h6]
  (simp (disch := first | decide | omega | (simp only [nx]; first | done | omega)) only [go_sem, Nat.reduceMul]; (repeat (with_reducible refine And.intro (by first | omega | assumption | rfl) ?_)))
  refine DCalls.of_pure (valSame_d a.depth a b (Nat.le_refl _) hwa hw) ?_
  rw [hne]
  (simp (disch := first | decide | omega | (simp only [nx]; first | done | omega)) only [go_sem, Nat.reduceMul, b5, b6]; (repeat (with_reducible refine And.intro (by first | omega | assumption | rfl) ?_)))
  refine DCalls.of_pure (copyV_d b.depth b (Nat.le_refl _) hw) ?_
  (simp (disch := first | decide | omega | (simp only [nx]; first | done | omega)) only [go_sem, Nat.reduceMul, b5, b6]; (repeat (with_reducible refine And.intro (by first | omega | assumption | rfl) ?_)))
  have hw2 := (hS.add (.box 28 (encV a).cells))
  have hkp : ∀ j o, S.ob j = some o → ((S.add (.box 28 (encV a).cells)).add (.box 28 (encV b).cells)).ob j = some o := fun j o e => keep_add hw2 _ j o (keep_add hS _ j o e)
  refine (add_w own ⟨1, p, 0, 0, b⟩ (by show k < S.next + 1 + 1; omega) (h.keep hkp) hl hp).mono ?_
  rintro _ T ⟨rfl, h1, h2⟩
  (simp (disch := first | decide | omega | (simp only [nx]; first | done | omega)) only [go_sem, Nat.reduceMul]; (repeat (with_reducible refine And.intro (by first | omega | assumption | rfl) ?_)))
  exact (MFr.of_keep (by show S.next ≤ S.next + 1 + 1; omega) hkp).trans h2
theorem closed_ops (l : List DOp) : (D.tup [.sl .no (l.map encO), .v .nilIface]).closed := by
  simp only [D.closed, D.all, allL, Own.all, and_true, true_and]
  refine allL_iff.2 fun d hd => ?_
  obtain ⟨o, _, rfl⟩ := List.mem_map.1 hd
  exact closed_encO o
set_option maxRecDepth 200000 in
set_option maxHeartbeats 4000000 in
theorem between_of (s : DSch) (a b : DVal) (l : List DOp) (hos : okS s) (hoa : okV a) (hob : okV b) (hr : rightS 5 s = true) (hfa : fitsTop a s = true) (hfb : fitsTop b s = true)
    (hval : ∀ S k, k < S.next → MAt k [] S → DCalls Try.prog 55 [.loc k 0, .sl .full [], encV a, encV b] S fun d T => d = undefD ∧ MAt k l T ∧ MFr k S T) :
    DPure Try.prog 29 [encS s, encV a, encV b] (.tup [.sl .no (l.map encO), .v .nilIface]) := by
  refine dpure_of_dwp mixed Try.func29 rfl (fun _ _ => by kernel_rfl) (rs := [.tmp 6, .tmp 7]) rfl (by kernel_rfl) (closed_ops l) (fun S hS => ?_)
  (simp (disch := first | decide | omega | (simp only [nx]; first | done | omega)) only [go_sem, Nat.reduceMul]; (repeat (with_reducible refine And.intro (by first | omega | assumption | rfl) ?_)))
  refine DCalls.of_pure (schRight_d s hos) ?_
  rw [hr]
  (simp (disch := first | decide | omega | (simp only [nx]; first | done | omega)) only [go_sem, Nat.reduceMul]; (repeat (with_reducible refine And.intro (by first | omega | assumption | rfl) ?_)))
  refine DCalls.of_pure (fitsTop_d a s hoa hos) ?_
  rw [hfa]
  (simp (disch := first | decide | omega | (simp only [nx]; first | done | omega)) only [go_sem, Nat.reduceMul]; (repeat (with_reducible refine And.intro (by first | omega | assumption | rfl) ?_)))
  refine DCalls.of_pure (fitsTop_d b s hob hos) ?_
  rw [hfb]
  (simp (disch := first | decide | omega | (simp only [nx]; first | done | omega)) only [go_sem, Nat.reduceMul]; (repeat (with_reducible refine And.intro (by first | omega | assumption | rfl) ?_)))
  refine (hval _ _ (by show _ < S.next + 1 + 1 + 1 + 1; omega) ⟨.full, by (first | (simp (disch := first | decide | omega | (simp only [nx]; first | done | omega)) only [go_sem, Nat.reduceMul]; first | done | rfl) | rfl), .inl ⟨rfl, rfl⟩⟩).mono ?_
  rintro _ T ⟨rfl, ⟨own, t1, t2⟩, hf⟩
  have hsub : S.Sub T := ⟨Nat.le_trans (by show S.next ≤ S.next + 1 + 1 + 1 + 1; omega) hf.next, fun j o e => hf.ob j o (.inl (by have := hS.lt e; omega)) (keep_add (((hS.add _).add _).add _) _ j o (keep_add ((hS.add _).add _) _ j o (keep_add (hS.add _) _ j o (keep_add hS _ j o e))))⟩
  (simp (disch := first | decide | omega | (simp only [nx]; first | done | omega)) only [go_sem, Nat.reduceMul, t1]; (repeat (with_reducible refine And.intro (by first | omega | assumption | rfl) ?_)))
  refine ⟨?_, hsub⟩
  simp only [D.frz, frzL, frz_mapO]
/-! The document's example. -/
def dcS : DSch := .mk 2 [] []
def dcA : DVal := .mk 2 2 [] [] [] []
def dcB : DVal := .mk 2 3 [] [] [] []
theorem ex_ok (n : Int) (h : I64 n) : okV (.mk 2 n [] [] [] []) := by
  rw [okV_eq]
  refine ⟨?_, h, by simp [DVal.s], by simp [DVal.names], by simp [DVal.names], by simp [DVal.ids], by simp [DVal.ids], by simp [DVal.parts], by simp [DVal.parts]⟩
  exact WalkArith.wf_i64 (by simp [DVal.kind])
set_option maxRecDepth 200000 in
set_option maxHeartbeats 4000000 in
theorem awake13_d : DPure Try.prog 16 [] (.v (.bool true)) := by
  have h2 := ex_ok 2 (WalkArith.wf_i64 (by omega))
  have h3 := ex_ok 3 (WalkArith.wf_i64 (by omega))
  have hs : okS dcS := by
    rw [okS_eq]
    exact ⟨WalkArith.wf_i64 (by simp [dcS, DSch.kind]), by simp [dcS, DSch.words], by simp [dcS, DSch.words], by simp [dcS, DSch.parts], by simp [dcS, DSch.parts]⟩
  have hb := between_of dcS dcA dcB [⟨1, [], 0, 0, dcB⟩] hs h2 h3 (by kernel_rfl) (by kernel_rfl) (by kernel_rfl) fun S k hk hm =>
    mval_set .full [] dcA dcB hk hm (by simp) (by simp) h2 h3 (by simp [dcA, DVal.weight_eq, DVal.names, DVal.ids, DVal.parts, DVal.weights]) (by simp [dcB, DVal.weight_eq, DVal.names, DVal.ids, DVal.parts, DVal.weights]) (by simp [dcA, DVal.kind]) (by simp [dcA, DVal.kind]) (Bool.eq_false_iff.2 fun h => by have := eqB_iff.1 h; simp [dcA, dcB] at this)
  refine dpure_of_dwp mixed Try.func16 rfl (fun _ _ => by kernel_rfl) (rs := [.tmp 0]) rfl (by kernel_rfl) trivial (fun S hS => ?_)
  (simp (disch := first | decide | omega | (simp only [nx]; first | done | omega)) only [go_sem, Nat.reduceMul]; (repeat (with_reducible refine And.intro (by first | omega | assumption | rfl) ?_)))
  refine DCalls.of_pure (DPure.weak hb (by simp only [frzL, D.frz, encV_eq, encS_eq]; rfl)) ?_
  have b11 : (((1 : Nat) : Int) == 1) = true := rfl
  (simp (disch := first | decide | omega | (simp only [nx]; first | done | omega)) only [go_sem, Nat.reduceMul, b11, cells_encO, opCs, gdV1, dcB, DVal.n]; (repeat (with_reducible refine And.intro (by first | omega | assumption | rfl) ?_)))
  refine ⟨?_, (by (repeat' first | assumption | exact St.Sub.refl _ | exact RowOk.sub (by assumption) (by assumption) | refine St.Sub.trans ?_ (RowOk.sub (by assumption) (by assumption)) | refine St.Sub.add ?_ ?_ _ | refine St.Sub.set ?_ ?_ ?_ _ | refine St.Sub.keep ?_ ?_ | refine St.WF.leave ?_ _ | refine St.WF.add ?_ _ | refine St.WF.set ?_ ?_ _ | refine St.WF.grow ?_ _ _ _ | refine St.WF.keep ?_ ?_ | (first | omega | (simp only [RowOk.lo, nx]; first | done | omega))))⟩
  rfl
end Go.Proofs.Ytjjhjhjphhpeiaa

namespace Go.Proofs.Ytjjhjhjphhpeiaa
open Go.RowKit
set_option linter.unusedSimpArgs false
set_option linter.unusedVariables false
theorem Now.round {a b : DVal} {i : Nat} {now : List Nat} {f : List DStp → DVal → DVal → List DOp} {p : List DStp} (h : Now a b i now) (hn : b.ids.Nodup) (h0 : 0 ∉ b.ids) (hi : i < b.ids.length) : Now a b (i + 1) (lsRound f p a b i now).2 := by
  have hz : b.ids[i] ≠ 0 := fun e => h0 (by rw [← e]; exact List.getElem_mem hi)
  unfold lsRound
  rw [getD_at hi]
  by_cases hx : b.ids[i] ∈ a.ids
  · rw [if_neg (by simpa using hx)]
    by_cases hc : now.getD i 0 = b.ids[i]
    · rw [if_neg (by simpa using hc)]
      have hl : i < now.length := by
        by_cases hh : i < now.length
        · exact hh
        · rw [getD_ge (by omega)] at hc
          exact absurd hc.symm hz
      exact h.stay hi hx hl (by rwa [getD_at hl] at hc)
    · rw [if_pos hc]
      obtain ⟨hm, hik, htk, hN', hll, hnd, hsub⟩ := h.move hn hi hx
      generalize now.take (ixN now b.ids[i]) ++ now.drop (ixN now b.ids[i] + 1) = m at *
      have hti : (m.take i).length = i := by rw [List.length_take]; omega
      have hlen : (m.take i ++ [b.ids[i]] ++ m.drop i).length = m.length + 1 := (perm_ins _ _ _).length_eq
      refine hN'.stay hi hx (by omega) ?_
      rw [List.getElem_append_left (by rw [List.length_append, hti]; simp), List.getElem_append_right (by omega)]
      simp [hti]
  · rw [if_pos hx]
    exact (h.ins hn hi hx).2
/-- Two values of one type, in a place. -/
structure VArg (k : Nat) (p : List DStp) (a b : DVal) (t : DSch) : Prop where
  ga : GV a t
  gb : GV b t
  rs : RS t
  oka : okV a
  okb : okV b
  wa : a.weight ≤ 1000000
  wb : b.weight ≤ 1000000
  dep : a.depth ≤ k
  len : p.length + k ≤ 1000
theorem VArg.field {k : Nat} {p : List DStp} {a b : DVal} {t : DSch} (h : VArg (k + 1) p a b t) (h5 : t.kind = 5) {i : Nat} (hi : i < a.names.length) : ∃ (ha : i < a.parts.length) (hb : i < b.parts.length) (u : DSch), VArg k (p ++ [(a.names.getD i [], 0)]) a.parts[i] b.parts[i] u := by
  have r1 := h.ga.recd h5
  have r2 := h.gb.recd h5
  have hai : i < a.parts.length := by have := r1.len; omega
  have hbi : i < b.parts.length := by have h1 := r2.len; have h2 := r1.len; have h3 := r1.names; have h4 := r2.names; rw [h4, ← h3] at h1; omega
  obtain ⟨o1, o2, o3, o4, o5, o6, o7, o8, o9⟩ := (okV_eq a).1 h.oka
  obtain ⟨p1, p2, p3, p4, p5, p6, p7, p8, p9⟩ := (okV_eq b).1 h.okb
  have w1 := DVal.weight_part (List.getElem_mem hai)
  have w2 := DVal.weight_part (List.getElem_mem hbi)
  have d1 := DVal.depth_part (List.getElem_mem hai)
  have := h.wa; have := h.wb; have := h.dep; have := h.len
  exact ⟨hai, hbi, _, h.ga.part hai, h.gb.part hbi, by rw [getD_at (h.ga.at_ hai)]; exact h.rs.part (List.getElem_mem _), o9 _ (List.getElem_mem hai), p9 _ (List.getElem_mem hbi), by omega, by omega, by omega, by simp; omega⟩
theorem VArg.elem {k : Nat} {p : List DStp} {a b : DVal} {t : DSch} (h : VArg (k + 1) p a b t) (h6 : t.kind = 6) {i : Nat} (hi : i < b.ids.length) (hx : b.ids[i] ∈ a.ids) : ∃ (ha : ixN a.ids b.ids[i] < a.parts.length) (hb : i < b.parts.length), VArg k (p ++ [([], b.ids[i])]) a.parts[ixN a.ids b.ids[i]] b.parts[i] (t.parts.getD 0 default) := by
  have hal := h.ga.list h6
  have hbl := h.gb.list h6
  have hai : ixN a.ids b.ids[i] < a.parts.length := by rw [hal.len]; exact ix_lt hx
  have hbi : i < b.parts.length := by have := hbl.len; omega
  obtain ⟨o1, o2, o3, o4, o5, o6, o7, o8, o9⟩ := (okV_eq a).1 h.oka
  obtain ⟨p1, p2, p3, p4, p5, p6, p7, p8, p9⟩ := (okV_eq b).1 h.okb
  have w1 := DVal.weight_part (List.getElem_mem hai)
  have w2 := DVal.weight_part (List.getElem_mem hbi)
  have d1 := DVal.depth_part (List.getElem_mem hai)
  have hpt : 0 < t.parts.length := by have := h.rs.here.2 h6; omega
  have := h.wa; have := h.wb; have := h.dep; have := h.len
  exact ⟨hai, hbi, hal.parts _ (List.getElem_mem hai), hbl.parts _ (List.getElem_mem hbi), by rw [getD_at hpt]; exact h.rs.part (List.getElem_mem hpt), o9 _ (List.getElem_mem hai), p9 _ (List.getElem_mem hbi), by omega, by omega, by omega, by simp; omega⟩
/-- What a call of value does. -/
def ValOk (k : Nat) : Prop := ∀ (S : St) (m : Nat) (own : Own) (l : List DOp) (p : List DStp) (a b : DVal) (t : DSch), m < S.next → MAt m l S → l.length + dMax k ≤ 1000000 → VArg k p a b t →
  DCalls Try.prog 55 [.loc m 0, .sl own (p.map encP), encV a, encV b] S fun d T => d = undefD ∧ MAt m (l ++ dOps k p a b) T ∧ MFr m S T
end Go.Proofs.Ytjjhjhjphhpeiaa

namespace Go.Proofs.Ytjjhjhjphhpeiaa
open Go.RowKit
set_option linter.unusedSimpArgs false
set_option linter.unusedVariables false
/-- What a contract tells, told of arguments with more room. -/
theorem DCalls.weak {P : Program} {g : FuncId} {args args' : List D} {S : St} {K : D → St → Prop} (k : DCalls P g args' S K) (h : frzL args = args') : DCalls P g args S K := fun base η w vs hM hr => k base η w vs hM (h ▸ RepL.frz hr)
theorem flat_u64 (l : List Nat) : flat (l.map u64D) = l.map u64D := flat_vs uv l
theorem NowAt.win {lo : Nat} {l : List Nat} {d : D} {T : St} (h : NowAt lo l d T) (hl : 0 < l.length) : ∃ j c zs, d = .win j 0 l.length c ∧ T.ob j = some (.box 24 (l.map u64D ++ zs)) := by
  rcases h with ⟨rfl, rfl⟩ | ⟨j, c, zs, rfl, h2, h3, h4, h5, h6⟩
  · cases hl
  · rw [ownOb_box h6, flat_u64] at h2
    exact ⟨j, c, zs, rfl, h2⟩
def dels (p : List DStp) (a b : DVal) (i : Nat) : List DOp := ((a.ids.take i).filter (fun id => decide (id ∉ b.ids))).map fun id => ⟨3, p, id, 0, zeroV⟩
def stay (a b : DVal) (i : Nat) : List Nat := (a.ids.take i).filter (fun id => decide (id ∈ b.ids))
theorem dels_len (p : List DStp) (a b : DVal) (i : Nat) : (dels p a b i).length ≤ i := by
  rw [dels, List.length_map]
  exact Nat.le_trans (List.length_filter_le _ _) (by rw [List.length_take]; omega)
theorem stay_len (a b : DVal) (i : Nat) : (stay a b i).length ≤ i := Nat.le_trans (List.length_filter_le _ _) (by rw [List.length_take]; omega)
theorem dels_no {p : List DStp} {a b : DVal} {i : Nat} (hi : i < a.ids.length) (h : a.ids[i] ∉ b.ids) : dels p a b (i + 1) = dels p a b i ++ [⟨3, p, a.ids[i], 0, zeroV⟩] ∧ stay a b (i + 1) = stay a b i := by
  unfold dels stay
  rw [List.take_succ_eq_append_getElem hi, List.filter_append, List.filter_append, List.filter_cons_of_pos (by simpa using h), List.filter_cons_of_neg (by simpa using h)]
  simp
theorem dels_yes {p : List DStp} {a b : DVal} {i : Nat} (hi : i < a.ids.length) (h : a.ids[i] ∈ b.ids) : dels p a b (i + 1) = dels p a b i ∧ stay a b (i + 1) = stay a b i ++ [a.ids[i]] := by
  unfold dels stay
  rw [List.take_succ_eq_append_getElem hi, List.filter_append, List.filter_append, List.filter_cons_of_neg (by simpa using h), List.filter_cons_of_pos (by simpa using h)]
  simp
set_option maxRecDepth 200000 in
set_option maxHeartbeats 8000000 in
theorem list_w {k : Nat} (ih : ValOk k) {S : St} {m : Nat} (own : Own) {l : List DOp} {p : List DStp} {a b : DVal} {t : DSch} (h6 : t.kind = 6) (hm : m < S.next) (hM : MAt m l S) (hl : l.length + dMax (k + 1) ≤ 1000000) (hA : VArg (k + 1) p a b t) :
    DCalls Try.prog 84 [.loc m 0, .sl own (p.map encP), encV a, encV b] S fun d T => d = undefD ∧ MAt m (l ++ (lsOps (dOps k) p a b b.ids.length).1) T ∧ MFr m S T := by
  have hal := hA.ga.list h6
  have hbl := hA.gb.list h6
  have hpl := hA.len
  have h12 := hal.most
  have hb12 := hbl.most
  have hdm : dMax (k + 1) = 24 + 12 * dMax k := rfl
  refine dcalls_inline mixed Try.func84 rfl (fun _ _ => by kernel_rfl) (rs := []) rfl (by kernel_rfl) (fun hS => ?_)
  (simp (disch := first | decide | omega | (simp only [nx]; first | done | omega)) only [go_sem, Nat.reduceMul]; (repeat (with_reducible refine And.intro (by first | omega | assumption | rfl) ?_)))
  obtain ⟨S1, hS1e⟩ : ∃ S1, (S.add (.box 28 (encV a).cells)).add (.box 28 (encV b).cells) = S1 := ⟨_, rfl⟩
  have hS1 : S1.WF := by rw [← hS1e]; exact (hS.add _).add _
  have hn1 : S1.next = S.next + 2 := by rw [← hS1e]; rfl
  have sa : S1.ob S.next = some (.box 28 (encV a).cells) := by rw [← hS1e]; (first | (simp (disch := first | decide | omega | (simp only [nx]; first | done | omega)) only [go_sem, Nat.reduceMul]; first | done | rfl) | rfl)
  have sb : S1.ob (S.next + 1) = some (.box 28 (encV b).cells) := by rw [← hS1e]; (first | (simp (disch := first | decide | omega | (simp only [nx]; first | done | omega)) only [go_sem, Nat.reduceMul]; first | done | rfl) | rfl)
  have hM1 : MAt m l S1 := by rw [← hS1e]; exact hM.keep fun j o e => keep_add (hS.add _) _ j o (keep_add hS _ j o e)
  have hF1 : MFr m S S1 := by rw [← hS1e]; exact MFr.of_keep (by show S.next ≤ S.next + 1 + 1; omega) fun j o e => keep_add (hS.add _) _ j o (keep_add hS _ j o e)
  rw [hS1e]
  clear hS1e
  refine dloop_up (fun t => List.contains [8, 10, 20, 21, 22, 23, 24, 25, 26, 27, 28, 29, 30, 31, 32, 33, 34, 35, 36, 37] t) (by kernel_rfl) (by exact hS1) a.ids.length (fun i g T => i ≤ a.ids.length ∧ g 20 = .v (.int .i64 ((i : Nat) : Int)) ∧ NowAt S1.next (stay a b i) (g 8) T ∧ MAt m (l ++ dels p a b i) T ∧ MFr m S1 T)
    ⟨by omega, by (first | (simp (disch := first | decide | omega | (simp only [nx]; first | done | omega)) only [go_sem, Nat.reduceMul]; first | done | rfl) | rfl), .inl ⟨rfl, by (first | (simp (disch := first | decide | omega | (simp only [nx]; first | done | omega)) only [go_sem, Nat.reduceMul]; first | done | rfl) | rfl)⟩, by simpa [dels] using hM1, MFr.refl _ _⟩ ?_
  rintro i g T hT hg ⟨le, q20, hN, hMT, hFT⟩
  (have q0 := hg 0 rfl; have q1 := hg 1 rfl; have q6 := hg 6 rfl; have q7 := hg 7 rfl; have q18 := hg 18 rfl; have q19 := hg 19 rfl; simp (disch := first | decide | omega | (simp only [nx]; first | done | omega)) only [go_sem, Nat.reduceMul] at q0 q1 q6 q7 q18 q19; clear hg)
  have ta := hFT.box S.next _ _ (by omega) sa
  have tb := hFT.box (S.next + 1) _ _ (by omega) sb
  have hlo := hFT.next
  have hlt : m < T.next := by omega
  have hdl := dels_len p a b i
  by_cases hi : i < a.ids.length
  · have b1 : decide ((i : Int) < (a.ids.length : Int)) = true := by simp; omega
    have w1 : IntKind.i64.wrap ((i : Int) + 1) = ((i + 1 : Nat) : Int) := IntWalk.i64_in _ ⟨by omega, by omega⟩
    (simp (disch := first | decide | omega | (simp only [nx]; first | done | omega)) only [go_sem, Nat.reduceMul, q20, q0, q1, q6, q7, q18, q19, ta, tb, b1, hi, u64D]; (repeat (with_reducible refine And.intro (by first | omega | assumption | rfl) ?_)))
    refine DCalls.of_pure (uHas_d .no b.ids a.ids[i] (by omega)) ?_
    by_cases hx : a.ids[i] ∈ b.ids
    · rw [decide_eq_true hx]
      obtain ⟨e1, e2⟩ := dels_yes (p := p) hi hx
      (simp (disch := first | decide | omega | (simp only [nx]; first | done | omega)) only [go_sem, Nat.reduceMul, q20, q0, q1, q6, q7, q18, q19, ta, tb, b1, hi, u64D]; (repeat (with_reducible refine And.intro (by first | omega | assumption | rfl) ?_)))
      refine now_app hN hT (by omega) (by have := stay_len a b i; omega) fun d' T' g1 g2 g3 => ?_
      (simp (disch := first | decide | omega | (simp only [nx]; first | done | omega)) only [go_sem, Nat.reduceMul, q20, w1]; (repeat (with_reducible refine And.intro (by first | omega | assumption | rfl) ?_)))
      refine ⟨by omega, _, fun _ _ h => h, by omega, by (first | (simp (disch := first | decide | omega | (simp only [nx]; first | done | omega)) only [go_sem, Nat.reduceMul]; first | done | rfl) | rfl), ?_, ?_, ?_⟩
      · have : NowAt S1.next (stay a b (i + 1)) d' T' := by rw [e2]; exact g1
        exact this
      · rw [e1]; exact hMT.gw (by omega) g2
      · exact hFT.gw hS1 g2
    · rw [decide_eq_false hx]
      obtain ⟨e1, e2⟩ := dels_no (p := p) hi hx
      (simp (disch := first | decide | omega | (simp only [nx]; first | done | omega)) only [go_sem, Nat.reduceMul, q20, q0, q1, q6, q7, q18, q19, ta, tb, b1, hi, u64D]; (repeat (with_reducible refine And.intro (by first | omega | assumption | rfl) ?_)))
      refine DCalls.weak ((add_w .no ⟨3, p, a.ids[i], 0, zeroV⟩ hlt hMT (by simp; omega) (by show p.length ≤ 1000000; omega)).mono ?_) (by simp only [frzL, D.frz, frz_mapPk]; rfl)
      rintro _ T' ⟨rfl, g1, g2⟩
      (simp (disch := first | decide | omega | (simp only [nx]; first | done | omega)) only [go_sem, Nat.reduceMul, q20, w1]; (repeat (with_reducible refine And.intro (by first | omega | assumption | rfl) ?_)))
      refine ⟨by omega, _, fun _ _ h => h, by omega, by (first | (simp (disch := first | decide | omega | (simp only [nx]; first | done | omega)) only [go_sem, Nat.reduceMul]; first | done | rfl) | rfl), ?_, ?_, ?_⟩
      · have : NowAt S1.next (stay a b (i + 1)) (g 8) T' := by rw [e2]; exact hN.fr (by omega) g2
        exact this
      · rw [e1, ← List.append_assoc]; exact g1
      · exact hFT.trans g2
  · have b1 : decide ((i : Int) < (a.ids.length : Int)) = false := by simp; omega
    have hie : i = a.ids.length := by omega
    subst hie
    (simp (disch := first | decide | omega | (simp only [nx]; first | done | omega)) only [go_sem, Nat.reduceMul, q20, q0, q1, q6, q7, q18, q19, ta, tb, b1]; (repeat (with_reducible refine And.intro (by first | omega | assumption | rfl) ?_)))
    have hM0 : MAt m (l ++ (lsOps (dOps k) p a b 0).1) T := by
      have := hMT
      rwa [dels, List.take_length] at this
    have hN0 : NowAt S1.next (lsOps (dOps k) p a b 0).2 (g 8) T := by
      have := hN
      rwa [stay, List.take_length] at this
    refine dloop_up (fun t => List.contains [8, 11, 12, 13, 14, 15, 16, 41, 42, 43, 44, 45, 46, 47, 48, 49, 50, 51, 52, 53, 54, 55, 56, 57, 58, 59, 60, 61, 62, 63, 64, 65, 66, 67, 68, 69, 70, 71, 72, 73, 74, 75, 76, 77, 78, 79, 80, 81, 82, 83, 84, 85, 86, 87, 88, 89, 90, 91, 92, 93, 94, 95, 96, 97, 98, 99, 100, 101, 102, 103, 104, 105, 106, 107, 108, 109, 110, 111, 112] t) (by kernel_rfl) (by exact hT) b.ids.length (fun i g T => i ≤ b.ids.length ∧ g 41 = .v (.int .i64 ((i : Nat) : Int)) ∧ g 11 = u64D (if i = 0 then 0 else b.ids.getD (i - 1) 0) ∧ NowAt S1.next (lsOps (dOps k) p a b i).2 (g 8) T ∧ MAt m (l ++ (lsOps (dOps k) p a b i).1) T ∧ MFr m S1 T ∧ Now a b i (lsOps (dOps k) p a b i).2)
      ⟨by omega, by (first | (simp (disch := first | decide | omega | (simp only [nx]; first | done | omega)) only [go_sem, Nat.reduceMul]; first | done | rfl) | rfl), by (first | (simp (disch := first | decide | omega | (simp only [nx]; first | done | omega)) only [go_sem, Nat.reduceMul]; first | done | rfl) | rfl), hN0, hM0, hFT, Now.zero hal.nodup⟩ ?_
    clear hM0 hN0 hN hMT hFT hT ta tb hlo hlt hdl b1 q20
    rintro i g' T2 hT hgb ⟨le, q41, q11, hN, hMT, hFT, hNow⟩
    (have q0b := hgb 0 rfl; have q1b := hgb 1 rfl; have q6b := hgb 6 rfl; have q7b := hgb 7 rfl; have q39b := hgb 39 rfl; have q40b := hgb 40 rfl; simp (disch := first | decide | omega | (simp only [nx]; first | done | omega)) only [go_sem, Nat.reduceMul, q0, q1, q6, q7, q18, q19] at q0b q1b q6b q7b q39b q40b; clear hgb)
    have ta := hFT.box S.next _ _ (by omega) sa
    have tb := hFT.box (S.next + 1) _ _ (by omega) sb
    have hlo := hFT.next
    have hlt : m < T2.next := by omega
    have hdl := len_list (lenAt k) (p := p) h6 hA.ga hA.gb hA.rs i le
    have hnm := hNow.most
    have hnl := hNow.len le
    by_cases hi : i < b.ids.length
    · have b1 : decide ((i : Int) < (b.ids.length : Int)) = true := by simp; omega
      have w1 : IntKind.i64.wrap ((i : Int) + 1) = ((i + 1 : Nat) : Int) := IntWalk.i64_in _ ⟨by omega, by omega⟩
      have hbi : i < b.parts.length := by have := hbl.len; omega
      have hi11 : i * (1 + dMax k) + (1 + dMax k) ≤ 12 * (1 + dMax k) := by rw [← Nat.succ_mul]; exact Nat.mul_le_mul_right _ (by omega)
      have hnx11 : (if i + 1 = 0 then 0 else b.ids.getD (i + 1 - 1) 0) = b.ids[i] := by rw [if_neg (by omega), Nat.add_sub_cancel]; exact getD_at hi
      have hNr := hNow.round (f := dOps k) (p := p) hbl.nodup hbl.zero hi
      have hdr := len_round (lenAt k) (p := p) h6 hA.ga hA.gb hA.rs hi (lsOps (dOps k) p a b i).2
      have hls : lsOps (dOps k) p a b (i + 1) = ((lsOps (dOps k) p a b i).1 ++ (lsRound (dOps k) p a b i (lsOps (dOps k) p a b i).2).1, (lsRound (dOps k) p a b i (lsOps (dOps k) p a b i).2).2) := rfl
      have hid : (b.ids.getD i 0) = b.ids[i] := getD_at hi
      generalize lsOps (dOps k) p a b i = R at *
      obtain ⟨L, now⟩ := R
      simp only at *
      (simp (disch := first | decide | omega | (simp only [nx]; first | done | omega)) only [go_sem, Nat.reduceMul, q41, q0b, q1b, q6b, q7b, q39b, q40b, ta, tb, b1, hi]; (repeat (with_reducible refine And.intro (by first | omega | assumption | rfl) ?_)))
      refine DCalls.of_pure (elem_d a b.ids[i] (by omega)) ?_
      by_cases hx : b.ids[i] ∈ a.ids
      · have he : elemV a b.ids[i] = .tup [.v (.int .i64 (ixN a.ids b.ids[i] : Int)), .v (.bool true)] := by unfold elemV; rw [if_pos ⟨hal.kind, hx⟩]
        obtain ⟨hmem, hik, -⟩ := hNow.move hbl.nodup hi hx
        have hil : i < now.length := Nat.lt_of_le_of_lt hik (ix_lt hmem)
        obtain ⟨j, c, zs, q8, tj⟩ := hN.win (by omega)
        have hgl : (i * 1 < (now.map u64D ++ zs).length) = True := by simp; omega
        have hgd : (now.map u64D ++ zs).getD (i * 1) undefD = .v (.int .u64 (now[i] : Int)) := by
          rw [Nat.mul_one, getD_at (by simp; omega), List.getElem_append_left (by simpa using hil), List.getElem_map]; rfl
        obtain ⟨hai, hbi', hV⟩ := hA.elem h6 hi hx
        have hpa : a.parts.getD (ixN a.ids b.ids[i]) default = a.parts[ixN a.ids b.ids[i]] := getD_at hai
        by_cases hc : now[i] = b.ids[i]
        · have b2 : ((now[i] : Int) != (b.ids[i] : Int)) = false := by simp [hc]
          have hr : lsRound (dOps k) p a b i now = (dOps k (p ++ [([], b.ids[i])]) a.parts[ixN a.ids b.ids[i]] b.parts[i], now) := by
            unfold lsRound
            rw [hid, if_neg (by simpa using hx), getD_at hil, if_neg (by simpa using hc), hpa, getD_at hbi]
          rw [hr] at hls hNr
          (simp (disch := first | decide | omega | (simp only [nx]; first | done | omega)) only [go_sem, Nat.reduceMul, he, q41, q0b, q1b, q6b, q7b, q39b, q40b, ta, tb, b1, hi, q8, tj, hil, hgl, hgd, b2]; (repeat (with_reducible refine And.intro (by first | omega | assumption | rfl) ?_)))
          rw [hr] at hdr
          refine ddraw_mk 15 (by kernel_rfl) ?_
          (simp (disch := first | decide | omega | (simp only [nx]; first | done | omega)) only [go_sem, Nat.reduceMul, q0b, q1b, q6b, q7b, ta, tb, q41, hai, hbi]; (repeat (with_reducible refine And.intro (by first | omega | assumption | rfl) ?_)))
          refine dqgo_mk (behind_d own p ([], b.ids[i]) (by omega)) ?_
          (simp (disch := first | decide | omega | (simp only [nx]; first | done | omega)) only [go_sem, Nat.reduceMul, q0b, q1b, q6b, q7b, ta, tb, q41, hai, hbi]; (repeat (with_reducible refine And.intro (by first | omega | assumption | rfl) ?_)))
          refine (ih T2 m .no (l ++ L) (p ++ [([], b.ids[i])]) a.parts[ixN a.ids b.ids[i]] b.parts[i] (t.parts.getD 0 default) (by omega) hMT (by simp only [List.length_append, List.length_cons, List.length_nil] at hdr ⊢; omega) hV).mono ?_
          rintro _ T6 ⟨rfl, f1, f2⟩
          (simp (disch := first | decide | omega | (simp only [nx]; first | done | omega)) only [go_sem, Nat.reduceMul, q41, w1]; (repeat (with_reducible refine And.intro (by first | omega | assumption | rfl) ?_)))
          refine ⟨by omega, _, fun _ _ h => h, by omega, by (first | (simp (disch := first | decide | omega | (simp only [nx]; first | done | omega)) only [go_sem, Nat.reduceMul]; first | done | rfl) | rfl), ?_, ?_, ?_, ?_, ?_⟩
          · rw [hnx11]; (first | (simp (disch := first | decide | omega | (simp only [nx]; first | done | omega)) only [go_sem, Nat.reduceMul]; first | done | rfl) | rfl)
          · rw [hls]; exact (hN).fr (by omega) f2
          · rw [hls]; simpa [List.append_assoc] using f1
          · exact (hFT).trans f2
          · rw [hls]; exact hNr
        · have b2 : ((now[i] : Int) != (b.ids[i] : Int)) = true := by simp; omega
          have hr : lsRound (dOps k) p a b i now = (⟨4, p, b.ids[i], if i = 0 then 0 else b.ids.getD (i - 1) 0, zeroV⟩ :: dOps k (p ++ [([], b.ids[i])]) a.parts[ixN a.ids b.ids[i]] b.parts[i], ((now.take (ixN now b.ids[i]) ++ now.drop (ixN now b.ids[i] + 1)).take i) ++ [b.ids[i]] ++ (now.take (ixN now b.ids[i]) ++ now.drop (ixN now b.ids[i] + 1)).drop i) := by
            unfold lsRound
            rw [hid, if_neg (by simpa using hx), getD_at hil, if_pos (by simpa using hc), hpa, getD_at hbi]
          rw [hr] at hls hNr hdr
          generalize hafe : (if i = 0 then 0 else b.ids.getD (i - 1) 0) = af at *
          (simp (disch := first | decide | omega | (simp only [nx]; first | done | omega)) only [go_sem, Nat.reduceMul, he, q41, q0b, q1b, q6b, q7b, q39b, q40b, ta, tb, b1, hi, q8, tj, hil, hgl, hgd, b2, q11, u64D]; (repeat (with_reducible refine And.intro (by first | omega | assumption | rfl) ?_)))
          refine DCalls.weak ((add_w .no ⟨4, p, b.ids[i], af, zeroV⟩ hlt hMT (by simp; omega) (by show p.length ≤ 1000000; omega)).wf.mono ?_) (by simp only [frzL, D.frz, frz_mapPk]; rfl)
          rintro _ T3 ⟨⟨rfl, g1, g2⟩, hT3⟩
          (simp (disch := first | decide | omega | (simp only [nx]; first | done | omega)) only [go_sem, Nat.reduceMul, q0b, q1b, q8]; (repeat (with_reducible refine And.intro (by first | omega | assumption | rfl) ?_)))
          rw [← q8]
          have hN3 := hN.fr (by omega) g2
          have hn3 := g2.next
          refine (now_ix hN3 hmem (by omega)).mono ?_
          rintro _ _ ⟨rfl, hTe⟩
          rw [hTe]
          clear hTe
          have hixl := ix_lt hmem
          have w2 : IntKind.i64.wrap (((ixN now b.ids[i] : Nat) : Int) + 1) = ((ixN now b.ids[i] + 1 : Nat) : Int) := IntWalk.i64_in _ ⟨by omega, by omega⟩
          (simp (disch := first | decide | omega | (simp only [nx]; first | done | omega)) only [go_sem, Nat.reduceMul, w2]; (repeat (with_reducible refine And.intro (by first | omega | assumption | rfl) ?_)))
          refine (now_del hN3 hT3 hixl (by omega)).mono ?_
          rintro d4 T4 ⟨g3, g4, hT4⟩
          obtain ⟨-, -, -, -, hll, -, -⟩ := hNow.move hbl.nodup hi hx
          have hml : (now.take (ixN now b.ids[i]) ++ now.drop (ixN now b.ids[i] + 1)).length ≤ 1000000 := by simp only [List.length_append, List.length_take, List.length_drop]; omega
          have hn4 := g4.next
          (simp (disch := first | decide | omega | (simp only [nx]; first | done | omega)) only [go_sem, Nat.reduceMul, q41]; (repeat (with_reducible refine And.intro (by first | omega | assumption | rfl) ?_)))
          refine (now_ins (x := b.ids[i]) g3 hT4 (by omega) hll hml).mono ?_
          rintro d5 T5 ⟨g5, g6⟩
          have hF5 : MFr m S1 T5 := (hFT.trans g2).gw hS1 (g4.trans g6)
          have ta5 := hF5.box S.next _ _ (by omega) sa
          have tb5 := hF5.box (S.next + 1) _ _ (by omega) sb
          have hn5 := hF5.next
          have hM5 : MAt m (l ++ (L ++ [⟨4, p, b.ids[i], af, zeroV⟩])) T5 := by rw [← List.append_assoc]; exact g1.gw (by omega) (g4.trans g6)
          (simp (disch := first | decide | omega | (simp only [nx]; first | done | omega)) only [go_sem, Nat.reduceMul, q0b, q1b, q6b, q7b]; (repeat (with_reducible refine And.intro (by first | omega | assumption | rfl) ?_)))
          refine ddraw_mk 15 (by kernel_rfl) ?_
          (simp (disch := first | decide | omega | (simp only [nx]; first | done | omega)) only [go_sem, Nat.reduceMul, q0b, q1b, q6b, q7b, ta5, tb5, q41, hai, hbi]; (repeat (with_reducible refine And.intro (by first | omega | assumption | rfl) ?_)))
          refine dqgo_mk (behind_d own p ([], b.ids[i]) (by omega)) ?_
          (simp (disch := first | decide | omega | (simp only [nx]; first | done | omega)) only [go_sem, Nat.reduceMul, q0b, q1b, q6b, q7b, ta5, tb5, q41, hai, hbi]; (repeat (with_reducible refine And.intro (by first | omega | assumption | rfl) ?_)))
          refine (ih T5 m .no (l ++ (L ++ [⟨4, p, b.ids[i], af, zeroV⟩])) (p ++ [([], b.ids[i])]) a.parts[ixN a.ids b.ids[i]] b.parts[i] (t.parts.getD 0 default) (by omega) hM5 (by simp only [List.length_append, List.length_cons, List.length_nil] at hdr ⊢; omega) hV).mono ?_
          rintro _ T6 ⟨rfl, f1, f2⟩
          (simp (disch := first | decide | omega | (simp only [nx]; first | done | omega)) only [go_sem, Nat.reduceMul, q41, w1]; (repeat (with_reducible refine And.intro (by first | omega | assumption | rfl) ?_)))
          refine ⟨by omega, _, fun _ _ h => h, by omega, by (first | (simp (disch := first | decide | omega | (simp only [nx]; first | done | omega)) only [go_sem, Nat.reduceMul]; first | done | rfl) | rfl), ?_, ?_, ?_, ?_, ?_⟩
          · rw [hnx11]; (first | (simp (disch := first | decide | omega | (simp only [nx]; first | done | omega)) only [go_sem, Nat.reduceMul]; first | done | rfl) | rfl)
          · rw [hls]; exact (g5).fr (by omega) f2
          · rw [hls]; simpa [List.append_assoc] using f1
          · exact (hF5).trans f2
          · rw [hls]; exact hNr
      · have he : elemV a b.ids[i] = .tup [.v (.int .i64 0), .v (.bool false)] := by unfold elemV; rw [if_neg (fun h => hx h.2)]
        (simp (disch := first | decide | omega | (simp only [nx]; first | done | omega)) only [go_sem, Nat.reduceMul, he, q41, q0b, q1b, q6b, q7b, q39b, q40b, ta, tb, b1, hi, hbi]; (repeat (with_reducible refine And.intro (by first | omega | assumption | rfl) ?_)))
        have hbw : b.parts[i].weight ≤ 1000000 := by have := DVal.weight_part (List.getElem_mem hbi); have := hA.wb; omega
        refine DCalls.of_pure (copyV_d b.parts[i].depth b.parts[i] (Nat.le_refl _) hbw) ?_
        have hr : lsRound (dOps k) p a b i now = ([⟨2, p, b.ids[i], if i = 0 then 0 else b.ids.getD (i - 1) 0, b.parts[i]⟩], now.take i ++ [b.ids[i]] ++ now.drop i) := by
          unfold lsRound
          rw [hid, if_pos hx, getD_at hbi]
        rw [hr] at hls hNr
        generalize hafe : (if i = 0 then 0 else b.ids.getD (i - 1) 0) = af at *
        (simp (disch := first | decide | omega | (simp only [nx]; first | done | omega)) only [go_sem, Nat.reduceMul, q11, q0b, q1b, q6b, q7b, tb, hi, u64D]; (repeat (with_reducible refine And.intro (by first | omega | assumption | rfl) ?_)))
        refine (add_w own ⟨2, p, b.ids[i], af, b.parts[i]⟩ hlt hMT (by simp; omega) (by show p.length ≤ 1000000; omega)).wf.mono ?_
        rintro _ T3 ⟨⟨rfl, g1, g2⟩, hT3⟩
        (simp (disch := first | decide | omega | (simp only [nx]; first | done | omega)) only [go_sem, Nat.reduceMul, q11, q0b, q1b, q6b, q7b, tb, hi, u64D]; (repeat (with_reducible refine And.intro (by first | omega | assumption | rfl) ?_)))
        have hN3 := hN.fr (by omega) g2
        have hn3 := g2.next
        refine (now_ins (x := b.ids[i]) hN3 hT3 (by omega) hnl (by omega)).mono ?_
        rintro d' T4 ⟨g3, g4⟩
        (simp (disch := first | decide | omega | (simp only [nx]; first | done | omega)) only [go_sem, Nat.reduceMul, q41, w1]; (repeat (with_reducible refine And.intro (by first | omega | assumption | rfl) ?_)))
        refine ⟨by omega, _, fun _ _ h => h, by omega, by (first | (simp (disch := first | decide | omega | (simp only [nx]; first | done | omega)) only [go_sem, Nat.reduceMul]; first | done | rfl) | rfl), ?_, ?_, ?_, ?_, ?_⟩
        · rw [hnx11]; (first | (simp (disch := first | decide | omega | (simp only [nx]; first | done | omega)) only [go_sem, Nat.reduceMul]; first | done | rfl) | rfl)
        · rw [hls]; exact g3
        · rw [hls, ← List.append_assoc]; exact g1.gw (by omega) g4
        · exact (hFT.trans g2).gw hS1 g4
        · rw [hls]; exact hNr
    · have b1 : decide ((i : Int) < (b.ids.length : Int)) = false := by simp; omega
      have hie : i = b.ids.length := by omega
      subst hie
      (simp (disch := first | decide | omega | (simp only [nx]; first | done | omega)) only [go_sem, Nat.reduceMul, q41, q0b, q1b, q6b, q7b, q39b, q40b, ta, tb, b1]; (repeat (with_reducible refine And.intro (by first | omega | assumption | rfl) ?_)))
      exact hF1.trans hFT
end Go.Proofs.Ytjjhjhjphhpeiaa

namespace Go.Proofs.Ytjjhjhjphhpeiaa
open Go.RowKit
set_option linter.unusedSimpArgs false
set_option linter.unusedVariables false
set_option maxRecDepth 200000 in
set_option maxHeartbeats 8000000 in
theorem valOk : ∀ k, ValOk k
  | 0 => fun S m own l p a b t hm hM hl hA => by have := hA.dep; have := a.depth_pos; omega
  | k + 1 => fun S m own l p a b t hm hM hl hA => by
    have ih := valOk k
    have hdm : dMax (k + 1) = 24 + 12 * dMax k := rfl
    have hpl := hA.len
    have hkd := hA.ga.kind
    by_cases h56 : a.kind ≠ 5 ∧ a.kind ≠ 6 ∧ eqB a b = false
    · have := mval_set own p a b hm hM (by omega) (by omega) hA.oka hA.okb hA.wa hA.wb h56.1 h56.2.1 h56.2.2
      rw [dOps, if_neg (by rw [h56.2.2]; simp), if_neg h56.1, if_neg h56.2.1]
      exact this
    refine dcalls_inline mixed Try.func55 rfl (fun _ _ => by kernel_rfl) (rs := []) rfl (by kernel_rfl) (fun hS => ?_)
    (simp (disch := first | decide | omega | (simp only [nx]; first | done | omega)) only [go_sem, Nat.reduceMul]; (repeat (with_reducible refine And.intro (by first | omega | assumption | rfl) ?_)))
    obtain ⟨S1, hS1e⟩ : ∃ S1, (S.add (.box 28 (encV a).cells)).add (.box 28 (encV b).cells) = S1 := ⟨_, rfl⟩
    have hS1 : S1.WF := by rw [← hS1e]; exact (hS.add _).add _
    have hn1 : S1.next = S.next + 2 := by rw [← hS1e]; rfl
    have sa : S1.ob S.next = some (.box 28 (encV a).cells) := by rw [← hS1e]; (first | (simp (disch := first | decide | omega | (simp only [nx]; first | done | omega)) only [go_sem, Nat.reduceMul]; first | done | rfl) | rfl)
    have sb : S1.ob (S.next + 1) = some (.box 28 (encV b).cells) := by rw [← hS1e]; (first | (simp (disch := first | decide | omega | (simp only [nx]; first | done | omega)) only [go_sem, Nat.reduceMul]; first | done | rfl) | rfl)
    have hM1 : MAt m l S1 := by rw [← hS1e]; exact hM.keep fun j o e => keep_add (hS.add _) _ j o (keep_add hS _ j o e)
    have hF1 : MFr m S S1 := by rw [← hS1e]; exact MFr.of_keep (by show S.next ≤ S.next + 1 + 1; omega) fun j o e => keep_add (hS.add _) _ j o (keep_add hS _ j o e)
    rw [hS1e]
    clear hS1e
    refine DCalls.of_pure (valSame_d a.depth a b (Nat.le_refl _) hA.wa hA.wb) ?_
    cases heq : eqB a b with
    | true =>
      (simp (disch := first | decide | omega | (simp only [nx]; first | done | omega)) only [go_sem, Nat.reduceMul]; (repeat (with_reducible refine And.intro (by first | omega | assumption | rfl) ?_)))
      rw [dOps, if_pos heq, List.append_nil]
      exact ⟨hM1, hF1⟩
    | false =>
    rw [dOps, if_neg (by rw [heq]; simp)]
    by_cases h5 : a.kind = 5
    · have b5 : (a.kind == 5) = true := by simp [h5]
      rw [if_pos h5]
      have hmost := (recd_most hA.ga).1
      (simp (disch := first | decide | omega | (simp only [nx]; first | done | omega)) only [go_sem, Nat.reduceMul, b5, sa, sb]; (repeat (with_reducible refine And.intro (by first | omega | assumption | rfl) ?_)))
      refine dloop_up (fun t => List.contains [8, 9, 27, 28, 29, 30, 31, 32, 33, 34, 35, 36, 37, 38, 39, 40, 41, 42, 43, 44, 45, 46, 47, 48] t) (by kernel_rfl) (by exact hS1) a.names.length (fun i g T => i ≤ a.names.length ∧ g 27 = .v (.int .i64 ((i : Nat) : Int)) ∧ MAt m (l ++ (List.range i).flatMap fun i => dOps k (p ++ [(a.names.getD i [], 0)]) (a.parts.getD i default) (b.parts.getD i default)) T ∧ MFr m S1 T)
        ⟨by omega, by (first | (simp (disch := first | decide | omega | (simp only [nx]; first | done | omega)) only [go_sem, Nat.reduceMul]; first | done | rfl) | rfl), by simpa using hM1, MFr.refl _ _⟩ ?_
      rintro i g T hT hg ⟨le, q27, hMT, hFT⟩
      (have q0 := hg 0 rfl; have q1 := hg 1 rfl; have q6 := hg 6 rfl; have q7 := hg 7 rfl; have q25 := hg 25 rfl; have q26 := hg 26 rfl; simp (disch := first | decide | omega | (simp only [nx]; first | done | omega)) only [go_sem, Nat.reduceMul] at q0 q1 q6 q7 q25 q26; clear hg)
      have ta := hFT.box S.next _ _ (by omega) sa
      have tb := hFT.box (S.next + 1) _ _ (by omega) sb
      have hlo := hFT.next
      have hlt : m < T.next := by omega
      have hdl := len_rec (lenAt k) (p := p) (by omega) hA.ga hA.gb hA.rs i le
      by_cases hi : i < a.names.length
      · have b1 : decide ((i : Int) < (a.names.length : Int)) = true := by simp; omega
        have w1 : IntKind.i64.wrap ((i : Int) + 1) = ((i + 1 : Nat) : Int) := IntWalk.i64_in _ ⟨by omega, by omega⟩
        obtain ⟨hai, hbi, u, hV⟩ := hA.field (by omega) hi
        have hi7 : i * dMax k + dMax k ≤ 12 * dMax k := by rw [← Nat.succ_mul]; exact Nat.mul_le_mul_right _ (by omega)
        have hnm : a.names.getD i [] = a.names[i] := getD_at hi
        have hr : (List.range (i + 1)).flatMap (fun i => dOps k (p ++ [(a.names.getD i [], 0)]) (a.parts.getD i default) (b.parts.getD i default)) = ((List.range i).flatMap fun i => dOps k (p ++ [(a.names.getD i [], 0)]) (a.parts.getD i default) (b.parts.getD i default)) ++ dOps k (p ++ [(a.names.getD i [], 0)]) a.parts[i] b.parts[i] := by
          rw [List.range_succ, List.flatMap_append, List.flatMap_cons, List.flatMap_nil, List.append_nil, getD_at hai, getD_at hbi]
        (simp (disch := first | decide | omega | (simp only [nx]; first | done | omega)) only [go_sem, Nat.reduceMul, q27, q0, q1, q6, q7, q25, q26, ta, tb, b1, hi, strD]; (repeat (with_reducible refine And.intro (by first | omega | assumption | rfl) ?_)))
        refine ddraw_mk 15 (by kernel_rfl) ?_
        (simp (disch := first | decide | omega | (simp only [nx]; first | done | omega)) only [go_sem, Nat.reduceMul, q27, q0, q1, q6, q7, q25, q26, ta, tb, hai, hbi]; (repeat (with_reducible refine And.intro (by first | omega | assumption | rfl) ?_)))
        refine dqgo_mk (behind_d own p (a.names[i], 0) (by omega)) ?_
        (simp (disch := first | decide | omega | (simp only [nx]; first | done | omega)) only [go_sem, Nat.reduceMul, q27, q0, q1, q6, q7, q25, q26, ta, tb, hai, hbi]; (repeat (with_reducible refine And.intro (by first | omega | assumption | rfl) ?_)))
        rw [hnm] at hr hV
        refine (ih T m .no (l ++ _) (p ++ [(a.names[i], 0)]) a.parts[i] b.parts[i] u (by omega) hMT (by simp only [List.length_append]; omega) hV).mono ?_
        rintro _ T2 ⟨rfl, g1, g2⟩
        (simp (disch := first | decide | omega | (simp only [nx]; first | done | omega)) only [go_sem, Nat.reduceMul, q27, w1]; (repeat (with_reducible refine And.intro (by first | omega | assumption | rfl) ?_)))
        refine ⟨by omega, _, fun _ _ h => h, by omega, by (first | (simp (disch := first | decide | omega | (simp only [nx]; first | done | omega)) only [go_sem, Nat.reduceMul]; first | done | rfl) | rfl), ?_, hFT.trans g2⟩
        rw [hr, ← List.append_assoc]
        exact g1
      · have b1 : decide ((i : Int) < (a.names.length : Int)) = false := by simp; omega
        have hie : i = a.names.length := by omega
        subst hie
        (simp (disch := first | decide | omega | (simp only [nx]; first | done | omega)) only [go_sem, Nat.reduceMul, q27, q0, q1, q6, q7, q25, q26, b1]; (repeat (with_reducible refine And.intro (by first | omega | assumption | rfl) ?_)))
        exact hF1.trans hFT
    · have h6 : a.kind = 6 := by
        by_cases h6 : a.kind = 6
        · exact h6
        · exact absurd ⟨h5, h6, heq⟩ h56
      have b5 : (a.kind == 5) = false := by simp [h5]
      have b6 : (a.kind == 6) = true := by simp [h6]
      rw [if_neg h5, if_pos h6]
      (simp (disch := first | decide | omega | (simp only [nx]; first | done | omega)) only [go_sem, Nat.reduceMul, b5, b6, sa, sb]; (repeat (with_reducible refine And.intro (by first | omega | assumption | rfl) ?_)))
      refine (list_w ih own (by omega) (by omega) hM1 (by omega) hA).mono ?_
      rintro _ T ⟨rfl, g1, g2⟩
      (simp (disch := first | decide | omega | (simp only [nx]; first | done | omega)) only [go_sem, Nat.reduceMul]; (repeat (with_reducible refine And.intro (by first | omega | assumption | rfl) ?_)))
      exact hF1.trans g2
end Go.Proofs.Ytjjhjhjphhpeiaa

namespace Go.Proofs.Ytjjhjhjphhpeiaa
open Go.RowKit
set_option linter.unusedSimpArgs false
set_option linter.unusedVariables false
/-- What Between answers: which error, and which operations. -/
noncomputable def betC (s : DSch) (a b : DVal) : Nat := if rightS 5 s = true then (if fitsTop a s = true ∧ fitsTop b s = true then 0 else 6) else 1
noncomputable def betO (s : DSch) (a b : DVal) : List DOp := if betC s a b = 0 then dOps 5 [] a b else []
theorem betC_zero {s : DSch} {a b : DVal} (h : betC s a b = 0) : rightS 5 s = true ∧ GV a s ∧ GV b s := by
  unfold betC at h
  split at h
  · split at h
    · rename_i h1 h2
      exact ⟨h1, (fitsTop_iff.1 h2.1).2, (fitsTop_iff.1 h2.2).2⟩
    · cases h
  · cases h
theorem closed_bet (l : List DOp) (c : Nat) : (D.tup [.sl .no (l.map encO), errO c]).closed := by
  have h := errO_closed c
  simp only [D.closed, D.all, allL, Own.all, true_and, and_true] at h ⊢
  refine ⟨allL_iff.2 fun d hd => ?_, h⟩
  obtain ⟨o, _, rfl⟩ := List.mem_map.1 hd
  exact closed_encO o
theorem vArg_top {s : DSch} {a b : DVal} (hs : rightS 5 s = true) (ha : GV a s) (hb : GV b s) (hoa : okV a) (hob : okV b) : VArg 5 [] a b s := by
  have h := RS.of_top hs
  have := GV.depth s.depth (Nat.le_refl _) ha
  exact ⟨ha, hb, h.1, hoa, hob, ha.wt hs, hb.wt hs, by omega, by simp⟩
set_option maxRecDepth 200000 in
set_option maxHeartbeats 8000000 in
theorem bet_d (s : DSch) (a b : DVal) (hos : okS s) (hoa : okV a) (hob : okV b) : DPure Try.prog 29 [encS s, encV a, encV b] (.tup [.sl .no ((betO s a b).map encO), errO (betC s a b)]) := by
  by_cases hr : rightS 5 s = true
  · by_cases hfa : fitsTop a s = true
    · by_cases hfb : fitsTop b s = true
      · have hc : betC s a b = 0 := by rw [betC, if_pos hr, if_pos ⟨hfa, hfb⟩]
        have hA := vArg_top hr (fitsTop_iff.1 hfa).2 (fitsTop_iff.1 hfb).2 hoa hob
        rw [betO, if_pos hc, hc]
        exact between_of s a b (dOps 5 [] a b) hos hoa hob hr hfa hfb fun S k hk hm => valOk 5 S k .full [] [] a b s hk hm (by simp [dMax]) hA
      · have hc : betC s a b = 6 := by rw [betC, if_pos hr, if_neg (fun h => hfb h.2)]
        rw [betO, if_neg (by omega), hc]
        refine dpure_of_dwp mixed Try.func29 rfl (fun _ _ => by kernel_rfl) (rs := [.tmp 6, .tmp 7]) rfl (by kernel_rfl) (closed_bet [] 6) (fun S hS => ?_)
        (simp (disch := first | decide | omega | (simp only [nx]; first | done | omega)) only [go_sem, Nat.reduceMul]; (repeat (with_reducible refine And.intro (by first | omega | assumption | rfl) ?_)))
        refine DCalls.of_pure (schRight_d s hos) ?_
        rw [hr]
        (simp (disch := first | decide | omega | (simp only [nx]; first | done | omega)) only [go_sem, Nat.reduceMul]; (repeat (with_reducible refine And.intro (by first | omega | assumption | rfl) ?_)))
        refine DCalls.of_pure (fitsTop_d a s hoa hos) ?_
        rw [hfa]
        (simp (disch := first | decide | omega | (simp only [nx]; first | done | omega)) only [go_sem, Nat.reduceMul]; (repeat (with_reducible refine And.intro (by first | omega | assumption | rfl) ?_)))
        refine DCalls.of_pure (fitsTop_d b s hob hos) ?_
        rw [Bool.eq_false_iff.2 hfb]
        (simp (disch := first | decide | omega | (simp only [nx]; first | done | omega)) only [go_sem, Nat.reduceMul]; (repeat (with_reducible refine And.intro (by first | omega | assumption | rfl) ?_)))
        refine ⟨?_, (by (repeat' first | assumption | exact St.Sub.refl _ | exact RowOk.sub (by assumption) (by assumption) | refine St.Sub.trans ?_ (RowOk.sub (by assumption) (by assumption)) | refine St.Sub.add ?_ ?_ _ | refine St.Sub.set ?_ ?_ ?_ _ | refine St.Sub.keep ?_ ?_ | refine St.WF.leave ?_ _ | refine St.WF.add ?_ _ | refine St.WF.set ?_ ?_ _ | refine St.WF.grow ?_ _ _ _ | refine St.WF.keep ?_ ?_ | (first | omega | (simp only [RowOk.lo, nx]; first | done | omega))))⟩
        rfl
    · have hc : betC s a b = 6 := by rw [betC, if_pos hr, if_neg (fun h => hfa h.1)]
      rw [betO, if_neg (by omega), hc]
      refine dpure_of_dwp mixed Try.func29 rfl (fun _ _ => by kernel_rfl) (rs := [.tmp 6, .tmp 7]) rfl (by kernel_rfl) (closed_bet [] 6) (fun S hS => ?_)
      (simp (disch := first | decide | omega | (simp only [nx]; first | done | omega)) only [go_sem, Nat.reduceMul]; (repeat (with_reducible refine And.intro (by first | omega | assumption | rfl) ?_)))
      refine DCalls.of_pure (schRight_d s hos) ?_
      rw [hr]
      (simp (disch := first | decide | omega | (simp only [nx]; first | done | omega)) only [go_sem, Nat.reduceMul]; (repeat (with_reducible refine And.intro (by first | omega | assumption | rfl) ?_)))
      refine DCalls.of_pure (fitsTop_d a s hoa hos) ?_
      rw [Bool.eq_false_iff.2 hfa]
      (simp (disch := first | decide | omega | (simp only [nx]; first | done | omega)) only [go_sem, Nat.reduceMul]; (repeat (with_reducible refine And.intro (by first | omega | assumption | rfl) ?_)))
      refine ⟨?_, (by (repeat' first | assumption | exact St.Sub.refl _ | exact RowOk.sub (by assumption) (by assumption) | refine St.Sub.trans ?_ (RowOk.sub (by assumption) (by assumption)) | refine St.Sub.add ?_ ?_ _ | refine St.Sub.set ?_ ?_ ?_ _ | refine St.Sub.keep ?_ ?_ | refine St.WF.leave ?_ _ | refine St.WF.add ?_ _ | refine St.WF.set ?_ ?_ _ | refine St.WF.grow ?_ _ _ _ | refine St.WF.keep ?_ ?_ | (first | omega | (simp only [RowOk.lo, nx]; first | done | omega))))⟩
      rfl
  · have hc : betC s a b = 1 := by rw [betC, if_neg hr]
    rw [betO, if_neg (by omega), hc]
    refine dpure_of_dwp mixed Try.func29 rfl (fun _ _ => by kernel_rfl) (rs := [.tmp 6, .tmp 7]) rfl (by kernel_rfl) (closed_bet [] 1) (fun S hS => ?_)
    (simp (disch := first | decide | omega | (simp only [nx]; first | done | omega)) only [go_sem, Nat.reduceMul]; (repeat (with_reducible refine And.intro (by first | omega | assumption | rfl) ?_)))
    refine DCalls.of_pure (schRight_d s hos) ?_
    rw [Bool.eq_false_iff.2 hr]
    (simp (disch := first | decide | omega | (simp only [nx]; first | done | omega)) only [go_sem, Nat.reduceMul]; (repeat (with_reducible refine And.intro (by first | omega | assumption | rfl) ?_)))
    refine ⟨?_, (by (repeat' first | assumption | exact St.Sub.refl _ | exact RowOk.sub (by assumption) (by assumption) | refine St.Sub.trans ?_ (RowOk.sub (by assumption) (by assumption)) | refine St.Sub.add ?_ ?_ _ | refine St.Sub.set ?_ ?_ ?_ _ | refine St.Sub.keep ?_ ?_ | refine St.WF.leave ?_ _ | refine St.WF.add ?_ _ | refine St.WF.set ?_ ?_ _ | refine St.WF.grow ?_ _ _ _ | refine St.WF.keep ?_ ?_ | (first | omega | (simp only [RowOk.lo, nx]; first | done | omega))))⟩
    rfl
/-- There, and back. -/
theorem bet_leads {s : DSch} {a b : DVal} (h : betC s a b = 0) : Leads s a (betO s a b) b := by
  obtain ⟨h1, h2, h3⟩ := betC_zero h
  rw [betO, if_pos h]
  have := GV.depth s.depth (Nat.le_refl _) h2
  have := RS.of_top h1
  exact leads_top h1 h2 h3 (by omega)
theorem bet_ok {s : DSch} {a b : DVal} (h : betC s a b = 0) (hoa : okV a) (hob : okV b) (hw : b.weight ≤ 1000) : ∀ o ∈ betO s a b, OkO o := by
  obtain ⟨h1, h2, h3⟩ := betC_zero h
  rw [betO, if_pos h]
  exact okAt 5 s [] a b h2 h3 (RS.of_top h1).1 hoa hob hw (by simp) (fun q hq => by cases hq)
theorem bet_len (s : DSch) (a b : DVal) : (betO s a b).length ≤ 1000000 := by
  unfold betO
  split
  · rename_i h
    obtain ⟨h1, h2, h3⟩ := betC_zero h
    exact Nat.le_trans (lenAt 5 s [] a b h2 h3 (RS.of_top h1).1) (by simp [dMax])
  · simp
theorem bet_apply {s : DSch} {a b : DVal} (h : betC s a b = 0) : applyV s a (betO s a b) = b := by
  obtain ⟨h1, h2, h3⟩ := betC_zero h
  rw [applyV, if_pos (fitsTop_iff.2 ⟨h1, h2⟩)]
  exact (bet_leads h).ends
end Go.Proofs.Ytjjhjhjphhpeiaa

namespace Go.Proofs.Ytjjhjhjphhpeiaa
open Go.RowKit
set_option linter.unusedSimpArgs false
set_option linter.unusedVariables false
def idOf (l : List UInt8) (i : Nat) : Nat := (l.getD i 0).toNat % 20 + 1
def mkIds (l : List UInt8) : Nat → List Nat
  | 0 => []
  | i + 1 => if (mkIds l i).length = 12 ∨ idOf l i ∈ mkIds l i then mkIds l i else mkIds l i ++ [idOf l i]
def ptV (m id : Nat) : DVal := .mk 2 ((id % m : Nat) : Int) [] [] [] []
def madeV (l : List UInt8) (m : Nat) : DVal := listV (mkIds l l.length) ((mkIds l l.length).map (ptV m))
theorem mkIds_good (l : List UInt8) : ∀ i, (mkIds l i).Nodup ∧ (∀ x ∈ mkIds l i, 1 ≤ x ∧ x ≤ 20) ∧ (mkIds l i).length ≤ 12
  | 0 => ⟨List.nodup_nil, fun x hx => (by cases hx), Nat.zero_le _⟩
  | i + 1 => by
    obtain ⟨h1, h2, h3⟩ := mkIds_good l i
    rw [mkIds]
    split
    · exact ⟨h1, h2, h3⟩
    · rename_i h
      rw [not_or] at h
      refine ⟨List.nodup_append.2 ⟨h1, by simp, fun a ha b hb => ?_⟩, fun x hx => ?_, by rw [List.length_append]; simp; omega⟩
      · rw [List.mem_singleton] at hb; subst hb
        rintro rfl
        exact h.2 ha
      · rcases List.mem_append.1 hx with hx | hx
        · exact h2 x hx
        · rw [List.mem_singleton] at hx; subst hx
          unfold idOf; omega
theorem mkIds_full {l : List UInt8} {i : Nat} (h : (mkIds l i).length = 12) : ∀ j, mkIds l (i + j) = mkIds l i
  | 0 => rfl
  | j + 1 => by
    have ih := mkIds_full h j
    show mkIds l (i + j + 1) = _
    rw [mkIds, ih, if_pos (.inl h)]
theorem ptV_wts (m : Nat) : ∀ l : List Nat, DVal.weights (l.map (ptV m)) = l.length
  | [] => by simp [DVal.weights]
  | x :: l => by
    rw [List.map_cons, DVal.weights, ptV_wts m l, DVal.weight_eq]
    simp [ptV, DVal.names, DVal.ids, DVal.parts, DVal.weights, Nat.add_comm]
theorem madeWt (m : Nat) (l : List Nat) : (listV l (l.map (ptV m))).weight = 1 + l.length + l.length := by
  rw [DVal.weight_eq]
  show 1 + 0 + l.length + DVal.weights (l.map (ptV m)) = _
  rw [ptV_wts]
def ptD (m id : Nat) : D := .agg [.v (.int .i64 2), .v (.int .i64 ((id % m : Nat) : Int)), .v (.string ⟨#[]⟩), .sl .full [], .sl .full [], .sl .full []]
theorem frz_pts (m : Nat) (l : List Nat) : frzL (l.map (ptD m)) = (l.map (ptV m)).map encV := by
  rw [frzL_map, List.map_map, List.map_map]
  exact List.map_congr_left fun x _ => rfl
/-- One slice of the two grows. -/
theorem two_one {o lo : Nat} {e1 e2 : TypeId} {f : D → D → List D} {L1 L2 L1' : List D} {o1 o2 : Own} {T : St} {m1 : Nat} (h : Two o lo e1 e2 f L1 L2 o1 o2 T) (hT : T.WF) (hlo : lo ≤ T.next) (ho : o < lo) (hne : e1 ≠ e2) (hm1 : m1 = L1'.length) :
    Two o lo e1 e2 f L1' L2 (.row T.next) o2 ((T.grow o1 e1 m1).set o (.box 28 (f (.sl (.row T.next) L1') (.sl o2 L2)))) ∧
    Fz (fun j => j ≠ o ∧ j < lo) T ((T.grow o1 e1 m1).set o (.box 28 (f (.sl (.row T.next) L1') (.sl o2 L2)))) ∧
    ((T.grow o1 e1 m1).set o (.box 28 (f (.sl (.row T.next) L1') (.sl o2 L2)))).WF ∧
    ((T.grow o1 e1 m1).set o (.box 28 (f (.sl (.row T.next) L1') (.sl o2 L2)))).next = T.next + 1 := by
  subst hm1
  have hol := hT.lt h.box
  have hn1 : (T.grow o1 e1 L1'.length).next = T.next + 1 := grow_next _ _ _ _
  refine ⟨⟨by simp [St.set], .inr ⟨T.next, rfl, hlo, ?_⟩, (h.row2 hT hne (m := L1'.length)).keep fun g hg => ?_⟩, ⟨?_, fun j o' hj e => ?_⟩, ?_, hn1⟩
  · simp only [St.set]
    rw [if_neg (by omega), grow_hit]
  · have := h.r2.ne (j := o) (.inl ho) g hg
    simp only [St.set]
    rw [if_neg (fun e => this e.symm)]
  · show T.next ≤ (T.grow o1 e1 L1'.length).next
    omega
  · have := hT.lt e
    simp only [St.set]
    rw [if_neg hj.1, grow_skip (by omega) (h.r1.ne (.inl hj.2)), e]
  · exact (hT.grow _ _ _).set (by omega) _
theorem two_two {o lo : Nat} {e1 e2 : TypeId} {f : D → D → List D} {L1 L2 L2' : List D} {o1 o2 : Own} {T : St} {m2 : Nat} (h : Two o lo e1 e2 f L1 L2 o1 o2 T) (hT : T.WF) (hlo : lo ≤ T.next) (ho : o < lo) (hne : e1 ≠ e2) (hm2 : m2 = L2'.length) :
    Two o lo e1 e2 f L1 L2' o1 (.row T.next) ((T.grow o2 e2 m2).set o (.box 28 (f (.sl o1 L1) (.sl (.row T.next) L2')))) ∧
    Fz (fun j => j ≠ o ∧ j < lo) T ((T.grow o2 e2 m2).set o (.box 28 (f (.sl o1 L1) (.sl (.row T.next) L2')))) ∧
    ((T.grow o2 e2 m2).set o (.box 28 (f (.sl o1 L1) (.sl (.row T.next) L2')))).WF ∧
    ((T.grow o2 e2 m2).set o (.box 28 (f (.sl o1 L1) (.sl (.row T.next) L2')))).next = T.next + 1 := by
  subst hm2
  have hol := hT.lt h.box
  have hn1 : (T.grow o2 e2 L2'.length).next = T.next + 1 := grow_next _ _ _ _
  refine ⟨⟨by simp [St.set], h.r1.keep fun g hg => ?_, .inr ⟨T.next, rfl, hlo, ?_⟩⟩, ⟨?_, fun j o' hj e => ?_⟩, ?_, hn1⟩
  · have h1 := h.r1.ne (j := o) (.inl ho) g hg
    have h2 := h.r1.lt hT g hg
    simp only [St.set]
    rw [if_neg (fun e => h1 e.symm), grow_skip (by omega) fun g' hg' e => h.apart hne g g' hg hg' e]
  · simp only [St.set]
    rw [if_neg (by omega), grow_hit]
  · show T.next ≤ (T.grow o2 e2 L2'.length).next
    omega
  · have := hT.lt e
    simp only [St.set]
    rw [if_neg hj.1, grow_skip (by omega) (h.r2.ne (.inl hj.2)), e]
  · exact (hT.grow _ _ _).set (by omega) _
set_option maxRecDepth 200000 in
set_option maxHeartbeats 8000000 in
theorem made_d (own : Own) (l : List UInt8) (add : Nat) (ha : add ≤ 10) (hl : l.length ≤ 140737488355328) :
    DPure Try.prog 30 [.sl own (l.map bD), .v (.int .i64 (add : Int))] (encV (madeV l (2 + add))) := by
  refine dpure_of_dwp mixed Try.func30 rfl (fun _ _ => by kernel_rfl) (rs := [.cell 4 28]) rfl (by kernel_rfl) (closed_encV _) (fun S hS => ?_)
  (simp (disch := first | decide | omega | (simp only [nx]; first | done | omega)) only [go_sem, Nat.reduceMul]; (repeat (with_reducible refine And.intro (by first | omega | assumption | rfl) ?_)))
  obtain ⟨T0, hT0e⟩ : ∃ T0 : St, T0 = (((S.add (.box 28 [.v (.int .i64 0), .v (.int .i64 0), .v (.string ⟨#[]⟩), .sl .full [], .sl .full [], .sl .full []])).add (.box 28 [.v (.int .i64 0), .v (.int .i64 0), .v (.string ⟨#[]⟩), .sl .full [], .sl .full [], .sl .full []])).set (S.next + 1) (.box 28 [.v (.int .i64 6), .v (.int .i64 0), .v (.string ⟨#[]⟩), .sl .full [], .sl .full [], .sl .full []])) := ⟨_, rfl⟩
  have hT0 : T0.WF := by rw [hT0e]; exact (by (repeat' first | assumption | refine St.WF.leave ?_ _ | refine St.WF.add ?_ _ | refine St.WF.set ?_ ?_ _ | refine St.WF.grow ?_ _ _ _ | refine St.WF.keep ?_ ?_ | (first | omega | (simp only [RowOk.lo, nx]; first | done | omega))))
  have hn0 : T0.next = S.next + 1 + 1 := by rw [hT0e]; simp only [add_next, set_next]
  have hF0 : S.Sub T0 := by rw [hT0e]; exact (by (repeat' first | assumption | exact St.Sub.refl _ | exact RowOk.sub (by assumption) (by assumption) | refine St.Sub.trans ?_ (RowOk.sub (by assumption) (by assumption)) | refine St.Sub.add ?_ ?_ _ | refine St.Sub.set ?_ ?_ ?_ _ | refine St.Sub.keep ?_ ?_ | refine St.WF.leave ?_ _ | refine St.WF.add ?_ _ | refine St.WF.set ?_ ?_ _ | refine St.WF.grow ?_ _ _ _ | refine St.WF.keep ?_ ?_ | (first | omega | (simp only [RowOk.lo, nx]; first | done | omega))))
  have u4 : T0.ob S.next = some (.box 28 [.v (.int .i64 0), .v (.int .i64 0), .v (.string ⟨#[]⟩), .sl .full [], .sl .full [], .sl .full []]) := by rw [hT0e]; (first | (simp (disch := first | decide | omega | (simp only [nx]; first | done | omega)) only [go_sem, Nat.reduceMul]; first | done | rfl) | rfl)
  have u5 : T0.ob (S.next + 1) = some (.box 28 [.v (.int .i64 6), .v (.int .i64 0), .v (.string ⟨#[]⟩), .sl .full [], .sl .full [], .sl .full []]) := by rw [hT0e]; (first | (simp (disch := first | decide | omega | (simp only [nx]; first | done | omega)) only [go_sem, Nat.reduceMul]; first | done | rfl) | rfl)
  try rw [← hT0e]
  obtain ⟨lo, hlo⟩ : ∃ lo, lo = S.next + 1 + 1 := ⟨_, rfl⟩
  have heU : elT Try.prog 26 = some 24 := by kernel_rfl
  have heV : elT Try.prog 23 = some 28 := by kernel_rfl
  have hzU : szOf Try.prog 24 = 1 := by kernel_rfl
  have hzV : szOf Try.prog 28 = 6 := by kernel_rfl
  have wU : ∀ l : List Nat, ∀ d ∈ l.map u64D, d.width = szOf Try.prog 24 := fun l d hd => by rw [hzU]; exact wUs l d hd
  have wV : ∀ l : List Nat, ∀ d ∈ l.map (ptD (2 + add)), d.width = szOf Try.prog 28 := fun l d hd => by rw [hzV]; obtain ⟨x, _, rfl⟩ := List.mem_map.1 hd; rfl
  have xU : ∀ n : Nat, (u64D n).width = szOf Try.prog 24 := fun n => by rw [hzU]; rfl
  have xV : ∀ n : Nat, (ptD (2 + add) n).width = szOf Try.prog 28 := fun n => by rw [hzV]; rfl
  refine dloop_up (fun t => List.contains [6, 7, 9, 10, 11, 12, 13, 14, 15, 16, 17, 18, 19, 20, 21, 22, 23, 24, 25, 26, 27, 28, 29, 30, 31, 32, 33, 34, 35, 36, 37, 38, 39, 40, 41, 42, 43, 44, 45, 46, 47, 48] t) (by kernel_rfl) hT0 l.length (fun i g T => i ≤ l.length ∧ g 6 = .v (.int .i64 ((i : Nat) : Int)) ∧ (∃ o1 o2, Two (S.next + 1) lo 24 28 outL ((mkIds l i).map u64D) ((mkIds l i).map (ptD (2 + add))) o1 o2 T) ∧ Fz (fun j => j ≠ S.next + 1 ∧ j < lo) T0 T ∧ lo ≤ T.next)
    ⟨by omega, by (first | (simp (disch := first | decide | omega | (simp only [nx]; first | done | omega)) only [go_sem, Nat.reduceMul]; first | done | rfl) | rfl), ⟨.full, .full, ⟨u5, .inl ⟨rfl, rfl⟩, .inl ⟨rfl, rfl⟩⟩⟩, Fz.refl _ _, by omega⟩ ?_
  rintro i g2 T hT hgb ⟨le, q6, ⟨o1, o2, h2⟩, hF, hln⟩
  (have q0b := hgb 0 rfl; have q1b := hgb 1 rfl; have q4b := hgb 4 rfl; have q5b := hgb 5 rfl; simp (disch := first | decide | omega | (simp only [nx]; first | done | omega)) only [go_sem, Nat.reduceMul] at q0b q1b q4b q5b; clear hgb)
  have t4 := hF.ob _ _ ⟨by omega, by omega⟩ u4
  have t5 := h2.box
  obtain ⟨hnd, hrg, hmost⟩ := mkIds_good l i
  by_cases hlt : i < l.length
  · have b1 : decide ((i : Int) < (l.length : Int)) = true := by simp; omega
    by_cases hfull : (mkIds l i).length = 12
    · have b2 : decide (((mkIds l i).length : Int) < 12) = false := by simp; omega
      (simp (disch := first | decide | omega | (simp only [nx]; first | done | omega)) only [go_sem, Nat.reduceMul, q0b, q6, b1, q5b, t5, q4b, t4, outL, b2]; (repeat (with_reducible refine And.intro (by first | omega | assumption | rfl) ?_)))
      have hend : mkIds l l.length = mkIds l i := by
        have := mkIds_full hfull (l.length - i)
        rwa [show i + (l.length - i) = l.length by omega] at this
      refine ⟨?_, ?_⟩
      · rw [madeV, hend]
        simp only [listV, encV, D.frz, frzL, frz_u64s, frz_pts, encVs_map, sv, List.map_nil]
        rfl
      · refine ⟨by have := hF.next; show S.next ≤ T.next; omega, fun j ob e => ?_⟩
        have := hS.lt e
        show (if j = S.next then _ else T.ob j) = some ob
        rw [if_neg (by omega)]
        exact hF.ob _ _ ⟨by omega, by omega⟩ (hF0.ob _ _ e)
    · have b2 : decide (((mkIds l i).length : Int) < 12) = true := by simp; omega
      have hgb : (l.map bD).getD i undefD = .v (.int .u8 (l[i].toNat : Int)) := by rw [getD_at (by rw [List.length_map]; exact hlt), List.getElem_map]; rfl
      have r1 : dbin Try.prog .rem 5 (.tmp 24) (.const (.int .u8 20)) (.v (.int .u8 (l[i].toNat : Int))) (.v (.int .u8 20)) = some (True, .v (.int .u8 ((l[i].toNat % 20 : Nat) : Int))) := by rw [bin_rem _ _ _ (by omega)]; rfl
      have hide_ : idOf l i = l[i].toNat % 20 + 1 := by rw [idOf, getD_at hlt]
      have wA : IntKind.u64.wrap ((l[i].toNat % 20 : Nat) : Int) = ((l[i].toNat % 20 : Nat) : Int) := by rw [IntKind.wrap_u64]; omega
      have wB : IntKind.u64.wrap (((l[i].toNat % 20 : Nat) : Int) + 1) = ((idOf l i : Nat) : Int) := by rw [IntKind.wrap_u64]; omega
      (simp (disch := first | decide | omega | (simp only [nx]; first | done | omega)) only [go_sem, Nat.reduceMul, q0b, q1b, q6, b1, q5b, t5, outL, b2, hlt, hgb, r1, wA, wB]; (repeat (with_reducible refine And.intro (by first | omega | assumption | rfl) ?_)))
      have hid20 : idOf l i ≤ 20 := by omega
      refine DCalls.of_pure (DPure.weak (refElem_d (listV (mkIds l i) ((mkIds l i).map (ptV (2 + add)))) (idOf l i) (by rw [madeWt]; omega)) (by simp only [frzL, D.frz, frz_u64s, frz_pts, listV, encV, encVs_map, sv, List.map_nil]; rfl)) ?_
      by_cases hx : idOf l i ∈ mkIds l i
      · have he : elemI (listV (mkIds l i) ((mkIds l i).map (ptV (2 + add)))) (idOf l i) = ((ixN (mkIds l i) (idOf l i) : Nat) : Int) := by
          show (if (6 : Int) = 6 then ixI (mkIds l i) (idOf l i) else -1) = _
          rw [if_pos rfl]; exact if_pos hx
        have b3 : decide (((ixN (mkIds l i) (idOf l i) : Nat) : Int) < 0) = false := by simp
        have w1 : IntKind.i64.wrap ((i : Int) + 1) = ((i + 1 : Nat) : Int) := IntWalk.i64_in _ ⟨by omega, by omega⟩
        have hst : mkIds l (i + 1) = mkIds l i := by rw [mkIds, if_pos (.inr hx)]
        rw [he]
        (simp (disch := first | decide | omega | (simp only [nx]; first | done | omega)) only [go_sem, Nat.reduceMul, b3, q6, w1]; (repeat (with_reducible refine And.intro (by first | omega | assumption | rfl) ?_)))
        refine ⟨by omega, T.ob, fun _ _ h => h, by omega, by (first | (simp (disch := first | decide | omega | (simp only [nx]; first | done | omega)) only [go_sem, Nat.reduceMul]; first | done | rfl) | rfl), ⟨o1, o2, ?_⟩, hF, hln⟩
        rw [hst]
        exact h2
      · have he : elemI (listV (mkIds l i) ((mkIds l i).map (ptV (2 + add)))) (idOf l i) = -1 := by
          show (if (6 : Int) = 6 then ixI (mkIds l i) (idOf l i) else -1) = _
          rw [if_pos rfl]; exact if_neg hx
        have b3 : decide ((-1 : Int) < 0) = true := by decide
        have w1 : IntKind.i64.wrap ((i : Int) + 1) = ((i + 1 : Nat) : Int) := IntWalk.i64_in _ ⟨by omega, by omega⟩
        have hst : mkIds l (i + 1) = mkIds l i ++ [idOf l i] := by rw [mkIds, if_neg (by rw [not_or]; exact ⟨hfull, hx⟩)]
        rw [he]
        (simp (disch := first | decide | omega | (simp only [nx]; first | done | omega)) only [go_sem, Nat.reduceMul, b3, q6, w1, q5b, t5, outL]; (repeat (with_reducible refine And.intro (by first | omega | assumption | rfl) ?_)))
        have y5 : ∀ m, (T.grow o1 24 m).ob (S.next + 1) = some (.box 28 (outL (.sl o1 ((mkIds l i).map u64D)) (.sl o2 ((mkIds l i).map (ptD (2 + add)))))) := fun m => h2.at1 hT (by omega) t5
        refine dapp_at (lo := lo) heU (by kernel_rfl) h2.r1 (wU _) (xU (idOf l i)) (by simp (disch := first | decide | omega | (simp only [nx]; first | done | omega)) only [go_sem, Nat.reduceMul]; omega) (by simp (disch := first | decide | omega | (simp only [nx]; first | done | omega)) only [go_sem, Nat.reduceMul]; omega) ?_
        (simp (disch := first | decide | omega | (simp only [nx]; first | done | omega)) only [go_sem, Nat.reduceMul, q5b, y5, outL]; (repeat (with_reducible refine And.intro (by first | omega | assumption | rfl) ?_)))
        have key := two_one h2 hT hln (by omega) (by decide) (L1' := (mkIds l i).map u64D ++ [u64D (idOf l i)]) (m1 := (mkIds l i).length + 1) (by simp)
        simp only [outL, u64D] at key
        revert key
        generalize St.set (St.grow _ _ _ _) _ _ = T5
        rintro ⟨h5, hF5, hT5, hn5⟩
        have v5 := h5.box
        have wC : IntKind.i64.wrap ((idOf l i : Nat) : Int) = ((idOf l i : Nat) : Int) := IntWalk.i64_in _ ⟨by omega, by omega⟩
        have wD : IntKind.i64.wrap (2 + (add : Int)) = ((2 + add : Nat) : Int) := by rw [IntKind.wrap_i64]; omega
        have r2 : dbin Try.prog .rem 3 (.tmp 41) (.tmp 43) (.v (.int .i64 ((idOf l i : Nat) : Int))) (.v (.int .i64 ((2 + add : Nat) : Int))) = some (True, .v (.int .i64 ((idOf l i % (2 + add) : Nat) : Int))) := by rw [bin_rem _ _ _ (by omega)]; rfl
        refine ddraw_mk 9 (by kernel_rfl) ?_
        (simp (disch := first | decide | omega | (simp only [nx]; first | done | omega)) only [go_sem, Nat.reduceMul, q1b, q5b, v5, wC, wD, r2, outL]; (repeat (with_reducible refine And.intro (by first | omega | assumption | rfl) ?_)))
        have v5' : ∀ m, (T5.grow o2 28 m).ob (S.next + 1) = some (.box 28 (outL (.sl (.row T.next) ((mkIds l i).map u64D ++ [.v (.int .u64 ((idOf l i : Nat) : Int))])) (.sl o2 ((mkIds l i).map (ptD (2 + add)))))) := fun m => by
          have := hT5.lt v5
          rw [grow_skip (by omega) (h5.r2.ne (.inl (by omega)))]
          exact v5
        refine dapp_at (lo := lo) heV (by kernel_rfl) h5.r2 (wV _) (xV (idOf l i)) (by simp (disch := first | decide | omega | (simp only [nx]; first | done | omega)) only [go_sem, Nat.reduceMul]; omega) (by simp (disch := first | decide | omega | (simp only [nx]; first | done | omega)) only [go_sem, Nat.reduceMul]; omega) ?_
        (simp (disch := first | decide | omega | (simp only [nx]; first | done | omega)) only [go_sem, Nat.reduceMul, q1b, q5b, v5', outL, w1, q6]; (repeat (with_reducible refine And.intro (by first | omega | assumption | rfl) ?_)))
        have key := two_two h5 hT5 (by omega) (by omega) (by decide) (L2' := (mkIds l i).map (ptD (2 + add)) ++ [ptD (2 + add) (idOf l i)]) (m2 := (mkIds l i).length + 1) (by simp)
        simp only [outL, ptD] at key
        revert key
        generalize St.set (St.grow _ _ _ _) _ _ = T6
        rintro ⟨h6, hF6, hT6, hn6⟩
        refine ⟨by omega, T6.ob, fun _ _ h => h, by omega, by (first | (simp (disch := first | decide | omega | (simp only [nx]; first | done | omega)) only [go_sem, Nat.reduceMul]; first | done | rfl) | rfl), ⟨(.row T.next), (.row T5.next), ?_⟩, (((hF.trans hF5).mono fun _ h => ⟨h.1, h.2⟩).trans hF6).mono fun _ h => ⟨h.1, h.2⟩, by show lo ≤ T6.next; omega⟩
        rw [hst, List.map_append, List.map_append]
        exact h6
  · have b1 : decide ((i : Int) < (l.length : Int)) = false := by simp; omega
    (simp (disch := first | decide | omega | (simp only [nx]; first | done | omega)) only [go_sem, Nat.reduceMul, q0b, q6, b1, q5b, t5, q4b, t4, outL]; (repeat (with_reducible refine And.intro (by first | omega | assumption | rfl) ?_)))
    have hend : mkIds l l.length = mkIds l i := by rw [show l.length = i by omega]
    refine ⟨?_, ?_⟩
    · rw [madeV, hend]
      simp only [listV, encV, D.frz, frzL, frz_u64s, frz_pts, encVs_map, sv, List.map_nil]
      rfl
    · refine ⟨by have := hF.next; show S.next ≤ T.next; omega, fun j ob e => ?_⟩
      have := hS.lt e
      show (if j = S.next then _ else T.ob j) = some ob
      rw [if_neg (by omega)]
      exact hF.ob _ _ ⟨by omega, by omega⟩ (hF0.ob _ _ e)
end Go.Proofs.Ytjjhjhjphhpeiaa

namespace Go.Proofs.Ytjjhjhjphhpeiaa
open Go.RowKit
set_option linter.unusedSimpArgs false
set_option linter.unusedVariables false
theorem errD_zero {c : Nat} (h : c = 0) : errO c = .v .nilIface := by rw [errO, if_pos h]
theorem errD_ne {c : Nat} (h : c ≠ 0) : errO c = .ifc 84 (.v (.int .i64 (c : Int))) := by rw [errO, if_neg h]
instance : Inhabited DOp := ⟨⟨0, [], 0, 0, default⟩⟩
noncomputable def foldO (s : DSch) (v : DVal) (l : List DOp) (i : Nat) : DVal := (l.take i).foldl (apS s) v
theorem foldO_succ {s : DSch} {v : DVal} {l : List DOp} {i : Nat} (h : i < l.length) : foldO s v l (i + 1) = apS s (foldO s v l i) l[i] := by
  rw [foldO, List.take_succ_eq_append_getElem h, List.foldl_append]; rfl
theorem foldO_all {s : DSch} {v : DVal} {l : List DOp} (h : fitsTop v s = true) : foldO s v l l.length = applyV s v l := by
  rw [foldO, List.take_length, applyV, if_pos h]
set_option maxRecDepth 200000 in
set_option maxHeartbeats 8000000 in
theorem applyAll_d (s : DSch) (v : DVal) (l : List DOp) (own : Own) (hs : okS s) (hsw : s.weight ≤ 1000) (hok : okV v) (hw : v.weight ≤ 1000000) (hl : l.length ≤ 1000000) (ho : ∀ o ∈ l, OkO o) :
    DPure Try.prog 27 [encS s, encV v, .sl own (l.map encO)] (encV (applyV s v l)) := by
  refine dpure_of_dwp mixed Try.func27 rfl (fun _ _ => by kernel_rfl) (rs := [.cell 6 28]) rfl (by kernel_rfl) (closed_encV _) (fun S hS => ?_)
  (simp (disch := first | decide | omega | (simp only [nx]; first | done | omega)) only [go_sem, Nat.reduceMul]; (repeat (with_reducible refine And.intro (by first | omega | assumption | rfl) ?_)))
  refine DCalls.of_pure (copyV_d v.depth v (Nat.le_refl _) hw) ?_
  (simp (disch := first | decide | omega | (simp only [nx]; first | done | omega)) only [go_sem, Nat.reduceMul]; (repeat (with_reducible refine And.intro (by first | omega | assumption | rfl) ?_)))
  refine DCalls.of_pure (fitsTop_d v s hok hs) ?_
  cases hf : fitsTop v s with
  | false =>
    (simp (disch := first | decide | omega | (simp only [nx]; first | done | omega)) only [go_sem, Nat.reduceMul]; (repeat (with_reducible refine And.intro (by first | omega | assumption | rfl) ?_)))
    refine ⟨?_, (by (repeat' first | assumption | exact St.Sub.refl _ | exact RowOk.sub (by assumption) (by assumption) | refine St.Sub.trans ?_ (RowOk.sub (by assumption) (by assumption)) | refine St.Sub.add ?_ ?_ _ | refine St.Sub.set ?_ ?_ ?_ _ | refine St.Sub.keep ?_ ?_ | refine St.WF.leave ?_ _ | refine St.WF.add ?_ _ | refine St.WF.set ?_ ?_ _ | refine St.WF.grow ?_ _ _ _ | refine St.WF.keep ?_ ?_ | (first | omega | (simp only [RowOk.lo, nx]; first | done | omega))))⟩
    rw [frz_encV, applyV, if_neg (by rw [hf]; simp)]
  | true =>
  obtain ⟨h1, h2⟩ := fitsTop_iff.1 hf
  (simp (disch := first | decide | omega | (simp only [nx]; first | done | omega)) only [go_sem, Nat.reduceMul]; (repeat (with_reducible refine And.intro (by first | omega | assumption | rfl) ?_)))
  (refine dloop_var (fun t => List.contains [8, 18, 19, 20, 21, 22, 23, 24, 25, 26, 27, 28, 29] t) (by kernel_rfl) ?_ (l.length) (S.next + 1) (fun i => .box 28 (encV (foldO s v l i)).cells) ?_ (fun i f => i ≤ l.length ∧ f 18 = .v (.int .i64 (i : Nat))) ?_ ?_; (exact (by (repeat' first | assumption | refine St.WF.leave ?_ _ | refine St.WF.add ?_ _ | refine St.WF.set ?_ ?_ _ | refine St.WF.grow ?_ _ _ _ | refine St.WF.keep ?_ ?_ | (first | omega | (simp only [RowOk.lo, nx]; first | done | omega))))); (exact (by (first | (simp (disch := first | decide | omega | (simp only [nx]; first | done | omega)) only [go_sem, Nat.reduceMul]; first | done | rfl) | rfl))); (exact ⟨(by omega), (by (first | (simp (disch := first | decide | omega | (simp only [nx]; first | done | omega)) only [go_sem, Nat.reduceMul]; first | done | rfl) | rfl))⟩); intro i g tn hn hT hg hI; obtain ⟨le, q18⟩ := hI; have q3 := hg 3 rfl; have q4 := hg 4 rfl; have q6 := hg 6 rfl; have q16 := hg 16 rfl; have q17 := hg 17 rfl; simp (disch := first | decide | omega | (simp only [nx]; first | done | omega)) only [go_sem, Nat.reduceMul] at q3 q4 q6 q16 q17; clear hg; have hn' := hn; try simp only [add_next, set_next, grow_next, leave_next, drop_next] at hn')
  obtain ⟨gw, okw⟩ : GV (foldO s v l i) s ∧ okV (foldO s v l i) := fold_fits (l.take i) h2 hok fun o hom => ho o (List.mem_of_mem_take hom)
  have hnx := fun h => foldO_succ (s := s) (v := v) (l := l) (i := i) h
  have hend := foldO_all (l := l) hf
  by_cases hlt : i < l.length
  · have b1 : decide ((i : Int) < (l.length : Int)) = true := by simp; omega
    have w1 : IntKind.i64.wrap ((i : Int) + 1) = ((i + 1 : Nat) : Int) := IntWalk.i64_in _ ⟨by omega, by omega⟩
    have hoi := ho _ (List.getElem_mem hlt)
    have hsucc := hnx hlt
    have hgd := getD_map encO l i hlt
    generalize foldO s v l i = w at *
    (simp (disch := first | decide | omega | (simp only [nx]; first | done | omega)) only [go_sem, Nat.reduceMul, q16, q17, q18, q3, q4, b1, hgd]; (repeat (with_reducible refine And.intro (by first | omega | assumption | rfl) ?_)))
    refine DCalls.of_pure (check_o l[i] s hoi hs hsw) ?_
    by_cases hc : chkO l[i] s = 0
    · have he := errD_zero hc
      have hap : apS s w l[i] = apV l[i] w := by rw [apS, if_pos hc]
      (simp (disch := first | decide | omega | (simp only [nx]; first | done | omega)) only [go_sem, Nat.reduceMul, q16, q17, q18, q3, q4, he]; (repeat (with_reducible refine And.intro (by first | omega | assumption | rfl) ?_)))
      have hww := gw.wt h1
      have hw2 := (apV_fits gw hc).wt h1
      refine DCalls.of_pure (apply_o l[i] w hoi okw hww hw2 fun x hx k1 => ?_) ?_
      · obtain ⟨x1, x2, x3, x4⟩ := apV_list gw hc hx k1
        exact ⟨x1, x2, by omega, by omega⟩
      (simp (disch := first | decide | omega | (simp only [nx]; first | done | omega)) only [go_sem, Nat.reduceMul, q16, q17, q18, q3, q4, w1]; (repeat (with_reducible refine And.intro (by first | omega | assumption | rfl) ?_)))
      rw [← hap, ← hsucc]
      (refine ⟨by omega, St.Sub.upd hn (rfl) (by (repeat' first | assumption | exact St.Sub.refl _ | exact RowOk.sub (by assumption) (by assumption) | refine St.Sub.trans ?_ (RowOk.sub (by assumption) (by assumption)) | refine St.Sub.add ?_ ?_ _ | refine St.Sub.set ?_ ?_ ?_ _ | refine St.Sub.keep ?_ ?_ | refine St.WF.leave ?_ _ | refine St.WF.add ?_ _ | refine St.WF.set ?_ ?_ _ | refine St.WF.grow ?_ _ _ _ | refine St.WF.keep ?_ ?_ | (first | omega | (simp only [RowOk.lo, nx]; first | done | omega)))), ?_⟩; refine ⟨by omega, ?_⟩; all_goals (try (first | (simp (disch := first | decide | omega | (simp only [nx]; first | done | omega)) only [go_sem, Nat.reduceMul, w1]; first | done | rfl) | rfl)))
    · have he := errD_ne hc
      have hap : apS s w l[i] = w := by rw [apS, if_neg hc]
      (simp (disch := first | decide | omega | (simp only [nx]; first | done | omega)) only [go_sem, Nat.reduceMul, q16, q17, q18, q3, q4, he, w1]; (repeat (with_reducible refine And.intro (by first | omega | assumption | rfl) ?_)))
      refine ⟨hlt, ?_, by omega, by (first | (simp (disch := first | decide | omega | (simp only [nx]; first | done | omega)) only [go_sem, Nat.reduceMul, w1]; first | done | rfl) | rfl)⟩
      show St.Sub (St.set _ (S.next + 1) (Ob.box 28 (encV (foldO s v l (i + 1))).cells)) _
      rw [hsucc, hap]
      have hb : ∀ X : St, X.next ≤ tn → X.Sub ⟨tn, X.ob⟩ := fun X h => ⟨h, fun _ _ h => h⟩
      refine St.Sub.set (St.Sub.add (hb _ ?_) ?_ _) ?_ ?_ _
      · exact hn
      · exact (by (repeat' first | assumption | refine St.WF.leave ?_ _ | refine St.WF.add ?_ _ | refine St.WF.set ?_ ?_ _ | refine St.WF.grow ?_ _ _ _ | refine St.WF.keep ?_ ?_ | (first | omega | (simp only [RowOk.lo, nx]; first | done | omega))))
      · exact (by (repeat' first | assumption | refine St.WF.leave ?_ _ | refine St.WF.add ?_ _ | refine St.WF.set ?_ ?_ _ | refine St.WF.grow ?_ _ _ _ | refine St.WF.keep ?_ ?_ | (first | omega | (simp only [RowOk.lo, nx]; first | done | omega))))
      · exact hn
  · have b1 : decide ((i : Int) < (l.length : Int)) = false := by simp; omega
    have hil : i = l.length := by omega
    subst hil
    (simp (disch := first | decide | omega | (simp only [nx]; first | done | omega)) only [go_sem, Nat.reduceMul, q16, q17, q18, q3, q4, q6, b1]; (repeat (with_reducible refine And.intro (by first | omega | assumption | rfl) ?_)))
    rw [hend]
    refine ⟨?_, (by (repeat' first | assumption | exact St.Sub.refl _ | exact RowOk.sub (by assumption) (by assumption) | refine St.Sub.trans ?_ (RowOk.sub (by assumption) (by assumption)) | refine St.Sub.add ?_ ?_ _ | refine St.Sub.set ?_ ?_ ?_ _ | refine St.Sub.keep ?_ ?_ | refine St.WF.leave ?_ _ | refine St.WF.add ?_ _ | refine St.WF.set ?_ ?_ _ | refine St.WF.grow ?_ _ _ _ | refine St.WF.keep ?_ ?_ | (first | omega | (simp only [RowOk.lo, nx]; first | done | omega))))⟩
    rw [frz_encV]
end Go.Proofs.Ytjjhjhjphhpeiaa

namespace Go.Proofs.Ytjjhjhjphhpeiaa
open Go.RowKit
set_option linter.unusedSimpArgs false
set_option linter.unusedVariables false
def intS : DSch := .mk 2 [] []
def lsS : DSch := .mk 6 [] [intS]
theorem gv_int (n : Int) : GV (.mk 2 n [] [] [] []) intS := by
  refine .mk ?_ ?_ (fun i hi => by cases hi) (fun i hi => by cases hi)
  · simp [hereV, bad1, bad2, DVal.kind, DVal.n, DVal.s, DVal.names, DVal.ids, DVal.parts]
  · simp [headF, DVal.kind, DSch.kind, intS, DVal.names, DSch.words]
theorem right_lsS : rightS 5 lsS = true := by kernel_rfl
theorem gv_made (l : List UInt8) (m : Nat) : GV (madeV l m) lsS := by
  obtain ⟨h1, h2, h3⟩ := mkIds_good l l.length
  have h0 : GV (.mk 6 0 [] [] [] []) lsS := (fitsTop_iff.1 (show fitsTop (.mk 6 0 [] [] [] []) lsS = true by kernel_rfl)).2
  refine h0.ofList (RS.of_top right_lsS).1 rfl h1 (fun h => by have := h2 0 h; omega) h3 (by rw [List.length_map]) fun p hp => ?_
  obtain ⟨x, _, rfl⟩ := List.mem_map.1 hp
  exact gv_int _
theorem okV_pt (m x : Nat) (hm : 0 < m) (hm2 : m ≤ 100) : okV (ptV m x) := by
  have := Nat.mod_lt x hm
  exact ex_ok _ (WalkArith.wf_i64 (by omega))
theorem ok_made (l : List UInt8) (m : Nat) (hm : 0 < m) (hm2 : m ≤ 100) : okV (madeV l m) := by
  obtain ⟨h1, h2, h3⟩ := mkIds_good l l.length
  refine (okV_eq _).2 ⟨WalkArith.wf_i64 (by show _ ≤ (6:Int) ∧ (6:Int) ≤ _; omega), i64_0, by simp [madeV, listV, DVal.s], by simp [madeV, listV, DVal.names], by simp [madeV, listV, DVal.names], fun i hi => ?_, ?_, ?_, fun p hp => ?_⟩
  · have := h2 i hi
    have : i ≤ 20 := this.2
    exact WalkArith.wf_u64 (by omega)
  · show (mkIds l l.length).length ≤ _; omega
  · show ((mkIds l l.length).map (ptV m)).length ≤ _; rw [List.length_map]; omega
  · obtain ⟨x, _, rfl⟩ := List.mem_map.1 hp
    exact okV_pt m x hm hm2
theorem okS_lsS : okS lsS := by
  have h2 : okS intS := by
    rw [okS_eq]
    exact ⟨WalkArith.wf_i64 (by simp [intS, DSch.kind]), by simp [intS, DSch.words], by simp [intS, DSch.words], by simp [intS, DSch.parts], by simp [intS, DSch.parts]⟩
  rw [okS_eq]
  exact ⟨WalkArith.wf_i64 (by simp [lsS, DSch.kind]), by simp [lsS, DSch.words], by simp [lsS, DSch.words], by simp [lsS, DSch.parts], fun p hp => by simp only [lsS, DSch.parts, List.mem_singleton] at hp; subst hp; exact h2⟩
theorem bet_made (l q : List UInt8) (m m' : Nat) : betC lsS (madeV l m) (madeV q m') = 0 := by
  rw [betC, if_pos right_lsS, if_pos ⟨fitsTop_iff.2 ⟨right_lsS, gv_made l m⟩, fitsTop_iff.2 ⟨right_lsS, gv_made q m'⟩⟩]
theorem wt_made (l : List UInt8) (m : Nat) : (madeV l m).weight ≤ 100 := by
  obtain ⟨h1, h2, h3⟩ := mkIds_good l l.length
  rw [madeV, madeWt]; omega
theorem cv_u8int (n : Int) : pureRun Try.prog (convert 5 3 (.int .u8 n)) = some (.int .i64 (IntKind.i64.wrap n)) := by kernel_rfl
set_option maxRecDepth 200000 in
set_option maxHeartbeats 8000000 in
theorem deltaLists_d (o1 o2 : Own) (a b : List UInt8) (n : UInt8) (ha : a.length ≤ 140737488355328) (hb : b.length ≤ 140737488355328) : DPure Try.prog 8 [.sl o1 (a.map bD), .sl o2 (b.map bD), .v (.int .u8 (n.toNat : Int))] (.v (.bool true)) := by
  refine dpure_of_dwp mixed Try.func8 rfl (fun _ _ => by kernel_rfl) (rs := [.tmp 6]) rfl (by kernel_rfl) trivial (fun S hS => ?_)
  (simp (disch := first | decide | omega | (simp only [nx]; first | done | omega)) only [go_sem, Nat.reduceMul]; (repeat (with_reducible refine And.intro (by first | omega | assumption | rfl) ?_)))
  refine DCalls.of_pure (made_d o1 a 0 (by omega) ha) ?_
  have r1 : dbin Try.prog .rem 5 (.tmp 21) (.const (.int .u8 3)) (.v (.int .u8 (n.toNat : Int))) (.v (.int .u8 3)) = some (True, .v (.int .u8 ((n.toNat % 3 : Nat) : Int))) := by rw [bin_rem _ _ _ (by omega)]; rfl
  have w1 : IntKind.i64.wrap ((n.toNat % 3 : Nat) : Int) = ((n.toNat % 3 : Nat) : Int) := IntWalk.i64_in _ ⟨by omega, by omega⟩
  obtain ⟨x, hx⟩ : ∃ x, madeV a (2 + 0) = x := ⟨_, rfl⟩
  obtain ⟨y, hy⟩ : ∃ y, madeV b (2 + n.toNat % 3) = y := ⟨_, rfl⟩
  have hc : betC lsS x y = 0 := by rw [← hx, ← hy]; exact bet_made _ _ _ _
  have okx : okV x := by rw [← hx]; exact ok_made _ _ (by omega) (by omega)
  have oky : okV y := by rw [← hy]; exact ok_made _ _ (by omega) (by omega)
  have wx : x.weight ≤ 100 := by rw [← hx]; exact wt_made _ _
  have wy : y.weight ≤ 100 := by rw [← hy]; exact wt_made _ _
  have hlw : lsS.weight ≤ 1000 := by simp [lsS, intS, DSch.weight_eq, DSch.words, DSch.parts, DSch.weights]
  (simp (disch := first | decide | omega | (simp only [nx]; first | done | omega)) only [go_sem, Nat.reduceMul, r1, cv_u8int, w1]; (repeat (with_reducible refine And.intro (by first | omega | assumption | rfl) ?_)))
  refine DCalls.of_pure (made_d o2 b (n.toNat % 3) (by omega) hb) ?_
  rw [hx, hy]
  (simp (disch := first | decide | omega | (simp only [nx]; first | done | omega)) only [go_sem, Nat.reduceMul]; (repeat (with_reducible refine And.intro (by first | omega | assumption | rfl) ?_)))
  refine DCalls.of_pure (DPure.weak (bet_d lsS x y okS_lsS okx oky) (by simp only [frzL, D.frz, frz_encV, lsS, intS, encS, encSs, List.map_nil])) ?_
  rw [hc]
  (simp (disch := first | decide | omega | (simp only [nx]; first | done | omega)) only [go_sem, Nat.reduceMul, errO, if_pos]; (repeat (with_reducible refine And.intro (by first | omega | assumption | rfl) ?_)))
  refine ddraw_mk 13 (by kernel_rfl) ?_
  (simp (disch := first | decide | omega | (simp only [nx]; first | done | omega)) only [go_sem, Nat.reduceMul, errO, if_pos]; (repeat (with_reducible refine And.intro (by first | omega | assumption | rfl) ?_)))
  have hk : frzL [.agg [.v (.int .i64 6), .sl .full [], .sl .full [.agg [.v (.int .i64 2), .sl .full [], .sl .full []]]], encV x, .sl .no ((betO lsS x y).map encO)] = [encS lsS, encV x, .sl .no ((betO lsS x y).map encO)] := by
    simp only [frzL, D.frz, frz_encV, frz_mapO, lsS, intS, encS, encSs, List.map_nil]
  refine dqgo_mk (DPure.weak (applyAll_d lsS x (betO lsS x y) .no okS_lsS hlw okx (by omega) (bet_len lsS x y) (bet_ok hc okx oky (by omega))) hk) ?_
  rw [bet_apply hc]
  (simp (disch := first | decide | omega | (simp only [nx]; first | done | omega)) only [go_sem, Nat.reduceMul, errO, if_pos]; (repeat (with_reducible refine And.intro (by first | omega | assumption | rfl) ?_)))
  refine dqgo_mk (refSameV_d y y oky oky) ?_
  rw [eqB_true rfl]
  (simp (disch := first | decide | omega | (simp only [nx]; first | done | omega)) only [go_sem, Nat.reduceMul]; (repeat (with_reducible refine And.intro (by first | omega | assumption | rfl) ?_)))
  refine dqgo_mk awake13_d ?_
  (simp (disch := first | decide | omega | (simp only [nx]; first | done | omega)) only [go_sem, Nat.reduceMul]; (repeat (with_reducible refine And.intro (by first | omega | assumption | rfl) ?_)))
  refine ⟨?_, (by (repeat' first | assumption | exact St.Sub.refl _ | exact RowOk.sub (by assumption) (by assumption) | refine St.Sub.trans ?_ (RowOk.sub (by assumption) (by assumption)) | refine St.Sub.add ?_ ?_ _ | refine St.Sub.set ?_ ?_ ?_ _ | refine St.Sub.keep ?_ ?_ | refine St.WF.leave ?_ _ | refine St.WF.add ?_ _ | refine St.WF.set ?_ ?_ _ | refine St.WF.grow ?_ _ _ _ | refine St.WF.keep ?_ ?_ | (first | omega | (simp only [RowOk.lo, nx]; first | done | omega))))⟩
  rfl
end Go.Proofs.Ytjjhjhjphhpeiaa

namespace Go.Proofs.Ytjjhjhjphhpeiaa
open Go.ChangeShapes Go.WideShapes Go.ChangeAt Go.RowKit
theorem deltaLists_own : ownKnob Try.prog.godebug = none := by kernel_rfl
theorem deltaLists_laidOut : laidOutB Try.prog = true := by kernel_rfl
set_option maxRecDepth 100000 in
theorem deltaLists_lifted (os : Os) (started : os.Started) (H : Type) (enc : TypeId × Value → H) :
    ReturnsInHanded {} Try.checked os 8 .any (Rows.deltaListsSpec.pre6 enc Try.prog Try.f8 Rows.deltaListsRow.domain false) (Rows.deltaListsSpec.post enc Try.prog Try.f8 false true false false) := by
  refine returnsInHanded_of_change_sized (C := Try.checked) deltaLists_own started (by kernel_rfl) Try.func8
    (ChangeSpec.witness6 (enc := enc) (C := Try.checked) false ⟨#[], #[.slice none 0 0, .slice none 0 0, .int .u8 0], []⟩ 8 (by kernel_rfl) (by kernel_rfl) (by kernel_rfl) (by kernel_rfl)) ?_
  intro W base args ds gs before hval0 hW hcnd hsz0 _
  have hval : ∀ (j : Nat) t v, Try.f8.params[j]? = some t → args[j]? = some v → Value.okWide Try.prog W .any base t v := hval0
  have hsz : (DataW.weightsEach Try.prog (Try.f8.params.toList ++ Rows.deltaListsSpec.plain.varTypes Try.prog) (ds ++ gs)).all (· ≤ reachBytes) = true := hsz0
  have hW' := hW
  obtain ⟨p, q, hA0, hV, rfl, hfz, hnd⟩ := hW
  have hA : DataW.TrodAll enc Try.prog W 0 (fun _ => true) true Try.f8.params.toList args.toList ds p := hA0
  obtain ⟨rfl, rfl⟩ := trodVars_none hV
  rw [Try.params8] at hA hval hsz
  have hA1 := hA
  obtain ⟨v0, vs0, d0, ds0, p0, q0, hargs, rfl, rfl, h0, r0⟩ := trodAll_cons hA
  obtain ⟨v1, vs1, d1, ds1, p1, q1, rfl, rfl, rfl, h1, r1⟩ := trodAll_cons r0
  obtain ⟨v2, vs2, d2, ds2, p2, q2, rfl, rfl, rfl, h2, r2⟩ := trodAll_cons r1
  obtain ⟨rfl, rfl, rfl⟩ := trodAll_nil r2
  obtain rfl : args = #[v0, v1, v2] := by cases args; simp_all
  have z0 : Sized Try.prog 61 d0 := sized_of_each (j := 0) hsz rfl rfl
  have k0 : Value.okWide Try.prog W .any base 61 v0 := hval 0 _ _ rfl rfl
  have z1 : Sized Try.prog 61 d1 := sized_of_each (j := 1) hsz rfl rfl
  have k1 : Value.okWide Try.prog W .any base 61 v1 := hval 1 _ _ rfl rfl
  have z2 : Sized Try.prog 5 d2 := sized_of_each (j := 2) hsz rfl rfl
  have k2 : Value.okWide Try.prog W .any base 5 v2 := hval 2 _ _ rfl rfl
  clear hA0 hval0 hsz hsz0 hval
  have key : Calls Try.prog 8 #[v0, v1, v2] W (Gives (.bool true) W) := by
    obtain ⟨a, _, ha, ra⟩ := open_u8l h0 z0 k0
    obtain ⟨b, _, hb, rb⟩ := open_u8l h1 z1 k1
    obtain ⟨c, n1, n2, rfl⟩ := open_num (k := .u8) Try.underlying5 (d := d2) (p := p2) k2
    have hbo : 0 ≤ c ∧ c ≤ 255 := ⟨n1, n2⟩
    obtain ⟨n, rfl⟩ : ∃ n : UInt8, c = (n.toNat : Int) := ⟨UInt8.ofNat c.toNat, by rw [UInt8.toNat_ofNat_of_lt' (by show c.toNat < 256; omega)]; omega⟩
    exact gives_of_dpure (vs := [v0, v1, .int .u8 (n.toNat : Int)]) (deltaLists_d .no .no a b n (by omega) (by omega)) (by simp only [RepL]; exact ⟨_, _, rfl, ra _ _ fix_nil, _, _, rfl, rb _ _ fix_nil, _, _, rfl, by simp only [Rep], rfl⟩)
  refine key.mono fun e W' ⟨he, bel⟩ => ?_
  subst he
  exact ⟨_, rfl, _, _, _, [], _, [], hW', trodAll_mk1 (shut_bool Try.underlying4 _), trodAll_below deltaLists_laidOut bel (by kernel_rfl) hA1, rfl, bel.frame _, fun h => by cases h⟩

theorem deltaLists_holds : Rows.DeltaListsSaid :=
  OpenClaim.holds_of_wide 8 Try.f8 rfl rfl rfl rfl rfl rfl rfl ⟨rfl, rfl, rfl, rfl, rfl⟩ rfl rfl rfl rfl rfl (by kernel_rfl) Try.func8 (by kernel_rfl)
    (of_decide_eq_true (by kernel_rfl)) (by unfold Func.isWrapper; first | (rw [if_pos (by decide +kernel)]; kernel_rfl) | (rw [if_neg (by decide +kernel)]; exact ⟨rfl, rfl⟩))
    (fun os started H enc _ => deltaLists_lifted os started H enc)
#print axioms deltaLists_holds
end Go.Proofs.Ytjjhjhjphhpeiaa
