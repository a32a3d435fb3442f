/- Texts of a proof, part 8. Conditions: none. -/
import Derived.Test.YtonncfminojejaaGreatDoorE7
set_option linter.unusedVariables false
set_option linter.unusedSimpArgs false
namespace Go.Proofs.YtonncfminojejaaGreatDoor
open Go.RowKit
abbrev MU : Nat := 18446744073709551615
abbrev byN (l : List UInt8) (x : Rst) : Rst := nxt x (byE (l.drop x.1))
abbrev boN (l : List UInt8) (x : Rst) : Rst := nxt x (boE (l.drop x.1))
abbrev rwN (l : List UInt8) (x : Rst) (m : Nat) : Rst := nxt x (rwE (l.drop x.1) m)
abbrev nuN (l : List UInt8) (x : Rst) (m : Nat) : Rst := nxt x (nuE (l.drop x.1) m)
abbrev bsN (l : List UInt8) (x : Rst) (m : Nat) : Rst := nxt x (bsE (l.drop x.1) m)
def hV (l : List UInt8) (x : Rst) : H32 := if h : (rwV l x 32).length = 32 then ⟨rwV l x 32, h⟩ else zH
def fV (l : List UInt8) (x : Rst) : F64 := if h : (rwV l x 64).length = 64 then ⟨rwV l x 64, h⟩ else zF
noncomputable def idsR (l : List UInt8) (x : Rst) : Nat → List H32 × Rst
  | 0 => ([], x)
  | n + 1 => ((idsR l x n).1 ++ [hV l (idsR l x n).2], if riseH ((idsR l x n).1 ++ [hV l (idsR l x n).2]) = true then rwN l (idsR l x n).2 32 else nxt (rwN l (idsR l x n).2 32) (.error 2))
def esR (l : List UInt8) (x : Rst) : Nat → List (List UInt8) × Rst
  | 0 => ([], x)
  | n + 1 => ((esR l x n).1 ++ [bsV l (esR l x n).2 4096], if (bsV l (esR l x n).2 4096).length = 0 then nxt (bsN l (esR l x n).2 4096) (.error 2) else bsN l (esR l x n).2 4096)
def cntR (l : List UInt8) (x : Rst) (least most : Nat) : Nat × Rst :=
  if (nuN l x MU).2.1 ≠ 0 then (0, nuN l x MU)
  else if most < nuV l x MU then (0, nxt (nuN l x MU) (.error 3))
  else if nuV l x MU < least then (nuV l x MU, nxt (nuN l x MU) (.error 2))
  else (nuV l x MU, nuN l x MU)
def zM : DMs := ⟨0, false, zF, [], []⟩
def x0 : Rst := (0, 0, 0)
noncomputable def decM (l : List UInt8) : DMs × Rst :=
  if byV l x0 = 1 then
    (⟨1, boV l (byN l x0), fV l (boN l (byN l x0)), (idsR l (cntR l (rwN l (boN l (byN l x0)) 64) 0 64).2 (cntR l (rwN l (boN l (byN l x0)) 64) 0 64).1).1, []⟩, (idsR l (cntR l (rwN l (boN l (byN l x0)) 64) 0 64).2 (cntR l (rwN l (boN l (byN l x0)) 64) 0 64).1).2)
  else if byV l x0 = 2 then
    (⟨2, false, zF, (idsR l (cntR l (byN l x0) 1 8).2 (cntR l (byN l x0) 1 8).1).1, []⟩, (idsR l (cntR l (byN l x0) 1 8).2 (cntR l (byN l x0) 1 8).1).2)
  else if byV l x0 = 3 then
    (⟨3, false, zF, [], (esR l (cntR l (byN l x0) 1 8).2 (cntR l (byN l x0) 1 8).1).1⟩, (esR l (cntR l (byN l x0) 1 8).2 (cntR l (byN l x0) 1 8).1).2)
  else (⟨((byV l x0).toNat : Int), false, zF, [], []⟩, nxt (byN l x0) (.error 5))
def Rd (l : List UInt8) (x : Rst) (v : List UInt8) : Prop := x.2.1 = 0 ∧ x.1 ≤ l.length ∧ l.drop x.1 = v
theorem Rd.eq {l : List UInt8} {x : Rst} {v w : List UInt8} (h : Rd l x v) (h' : Rd l x w) : v = w := h.2.2.symm.trans h'.2.2
theorem Rd.go {l : List UInt8} {x : Rst} {u v : List UInt8} {E : Except Int Nat} (h : Rd l x (u ++ v)) (hE : E = .ok u.length) : Rd l (nxt x E) v := by
  obtain ⟨h1, h2, h3⟩ := h
  have := congrArg List.length h3
  rw [List.length_drop, List.length_append] at this
  rw [hE, nxt, if_pos h1]
  refine ⟨h1, by show x.1 + _ ≤ _; omega, ?_⟩
  show l.drop (x.1 + u.length) = v
  rw [← List.drop_drop, h3, List.drop_left]
theorem nxt_ok {x : Rst} {E : Except Int Nat} (hE : ∀ c, E = .error c → c ≠ 0) (h : (nxt x E).2.1 = 0) : x.2.1 = 0 ∧ ∃ s, E = .ok s := by
  cases E with
  | ok s =>
    refine ⟨?_, s, rfl⟩
    by_cases hx : x.2.1 = 0
    · exact hx
    · simp only [nxt, if_neg hx] at h; exact absurd h hx
  | error c =>
    have := hE c rfl
    by_cases hx : x.2.1 = 0
    · simp only [nxt, if_pos hx] at h; exact absurd h this
    · simp only [nxt, if_neg hx] at h; exact absurd h hx
theorem nxt_er (x : Rst) (c : Int) (hc : c ≠ 0) : (nxt x (.error c)).2.1 ≠ 0 := fun h => by
  obtain ⟨_, s, hs⟩ := nxt_ok (fun c' e => by injection e with e; rw [← e]; exact hc) h
  cases hs
theorem nxt_le' {l : List UInt8} {x : Rst} {E : Except Int Nat} (hi : x.1 ≤ l.length) (hE : ∀ s, E = .ok s → s ≤ (l.drop x.1).length) : (nxt x E).1 ≤ l.length := by
  cases E with
  | ok s =>
    have := hE s rfl
    rw [List.length_drop] at this
    simp only [nxt]
    split
    · show x.1 + s ≤ _; omega
    · exact hi
  | error c =>
    simp only [nxt]
    split <;> exact hi
theorem Rd.back {l : List UInt8} {x : Rst} {E : Except Int Nat} (hi : x.1 ≤ l.length) (hE : ∀ c, E = .error c → c ≠ 0) (hS : ∀ s, E = .ok s → s ≤ (l.drop x.1).length) (h : (nxt x E).2.1 = 0) : ∃ s, E = .ok s ∧ Rd l x (l.drop x.1) ∧ Rd l (nxt x E) ((l.drop x.1).drop s) := by
  obtain ⟨h0, s, rfl⟩ := nxt_ok hE h
  have h1 := hS s rfl
  refine ⟨s, rfl, ⟨h0, hi, rfl⟩, ?_⟩
  refine Rd.go (u := (l.drop x.1).take s) (v := (l.drop x.1).drop s) ⟨h0, hi, (List.take_append_drop ..).symm⟩ ?_
  rw [List.length_take, Nat.min_eq_left h1]
section fwd
variable {l : List UInt8} {x : Rst} {v : List UInt8}
theorem by_f {b : UInt8} (h : Rd l x (b :: v)) : byV l x = b ∧ Rd l (byN l x) v := by
  have h' : Rd l x ([b] ++ v) := h
  refine ⟨?_, h'.go ?_⟩
  · rw [byV, if_pos h.1, h.2.2]; rfl
  · rw [h.2.2]; rfl
theorem bo_f {c : Bool} (h : Rd l x ((if c then 1 else 0) :: v)) : boV l x = c ∧ Rd l (boN l x) v := by
  have h' : Rd l x ([if c then 1 else 0] ++ v) := h
  refine ⟨?_, h'.go ?_⟩
  · rw [boV, if_pos h.1, h.2.2]
    cases c <;> rfl
  · rw [h.2.2]
    cases c <;> rfl
theorem rw_f {u : List UInt8} {m : Nat} (hu : u.length = m) (h : Rd l x (u ++ v)) : rwV l x m = u ∧ Rd l (rwN l x m) v := by
  have hn : ¬ (u ++ v).length < m := by rw [List.length_append]; omega
  refine ⟨?_, h.go ?_⟩
  · rw [rwV, if_pos h.1, h.2.2, if_neg hn, ← hu, List.take_left]
  · rw [h.2.2, rwE, if_neg hn, hu]
theorem nu_f {n m : Nat} (hn : n < 18446744073709551616) (hm : n ≤ m) (h : Rd l x (numB n ++ v)) : nuV l x m = n ∧ Rd l (nuN l x m) v := by
  have e := numP_numB n v hn
  refine ⟨?_, h.go ?_⟩
  · rw [nuV, if_pos h.1, h.2.2, e]; simp only; rw [if_neg (by omega)]
  · rw [h.2.2, nuE, e]; simp only; rw [if_neg (by omega)]
theorem bs_f {u : List UInt8} {m : Nat} (hu : u.length ≤ m) (hn : u.length < 18446744073709551616) (h : Rd l x (numB u.length ++ u ++ v)) : bsV l x m = u ∧ Rd l (bsN l x m) v := by
  have e := numP_numB u.length (u ++ v) hn
  have ha : numB u.length ++ u ++ v = numB u.length ++ (u ++ v) := List.append_assoc ..
  have hl : ¬ ((numB u.length ++ (u ++ v)).length - (numB u.length).length < u.length) := by simp only [List.length_append]; omega
  refine ⟨?_, h.go ?_⟩
  · rw [bsV, if_pos h.1, h.2.2, ha, e]; simp only; rw [if_neg (by omega), if_neg hl, List.drop_left, List.take_left]
  · rw [h.2.2, ha, bsE, e]; simp only; rw [if_neg (by omega), if_neg hl, List.length_append]
theorem h_f {u : H32} (h : Rd l x (u.1 ++ v)) : hV l x = u ∧ Rd l (rwN l x 32) v := by
  obtain ⟨h1, h2⟩ := rw_f u.2 h
  refine ⟨?_, h2⟩
  unfold hV
  rw [dif_pos (by rw [h1]; exact u.2)]
  exact Subtype.ext h1
theorem f_f {u : F64} (h : Rd l x (u.1 ++ v)) : fV l x = u ∧ Rd l (rwN l x 64) v := by
  obtain ⟨h1, h2⟩ := rw_f u.2 h
  refine ⟨?_, h2⟩
  unfold fV
  rw [dif_pos (by rw [h1]; exact u.2)]
  exact Subtype.ext h1
theorem riseH_take {h : List H32} (hr : riseH h = true) (i : Nat) : riseH (h.take i) = true := riseH_true.2 fun j hj => by
  rw [List.length_take] at hj
  rw [List.getElem_take, List.getElem_take]
  exact riseH_true.1 hr j (by omega)
theorem ids_f {h : List H32} (hr : riseH h = true) (hd : Rd l x (idsB2 h ++ v)) : ∀ i, i ≤ h.length → (idsR l x i).1 = h.take i ∧ Rd l (idsR l x i).2 (idsB2 (h.drop i) ++ v)
  | 0, _ => ⟨rfl, hd⟩
  | i + 1, hi => by
    obtain ⟨h1, h2⟩ := ids_f hr hd i (by omega)
    rw [List.drop_eq_getElem_cons (show i < h.length by omega)] at h2
    have e : idsB2 (h[i] :: h.drop (i + 1)) ++ v = h[i].1 ++ (idsB2 (h.drop (i + 1)) ++ v) := by
      show (h[i].1 ++ idsB2 (h.drop (i + 1))) ++ v = _
      rw [List.append_assoc]
    rw [e] at h2
    obtain ⟨h3, h4⟩ := h_f h2
    have ht : (idsR l x i).1 ++ [hV l (idsR l x i).2] = h.take (i + 1) := by rw [h1, h3, List.take_succ_eq_append_getElem (by omega)]
    refine ⟨ht, ?_⟩
    rw [idsR, ht]
    show Rd l (if _ then _ else _) _
    rw [if_pos (riseH_take hr _)]
    exact h4
theorem es_f {h : List (List UInt8)} (hr : ∀ b ∈ h, 1 ≤ b.length ∧ b.length ≤ 4096) (hd : Rd l x (esB h ++ v)) : ∀ i, i ≤ h.length → (esR l x i).1 = h.take i ∧ Rd l (esR l x i).2 (esB (h.drop i) ++ v)
  | 0, _ => ⟨rfl, hd⟩
  | i + 1, hi => by
    obtain ⟨h1, h2⟩ := es_f hr hd i (by omega)
    rw [List.drop_eq_getElem_cons (show i < h.length by omega)] at h2
    have hb := hr h[i] (List.getElem_mem _)
    have e : esB (h[i] :: h.drop (i + 1)) ++ v = numB h[i].length ++ h[i] ++ (esB (h.drop (i + 1)) ++ v) := by
      show (numB h[i].length ++ h[i] ++ esB (h.drop (i + 1))) ++ v = _
      rw [List.append_assoc]
    rw [e] at h2
    obtain ⟨h3, h4⟩ := bs_f (m := 4096) hb.2 (by omega) h2
    have ht : (esR l x i).1 ++ [bsV l (esR l x i).2 4096] = h.take (i + 1) := by rw [h1, h3, List.take_succ_eq_append_getElem (by omega)]
    refine ⟨ht, ?_⟩
    rw [esR, h3]
    show Rd l (if _ then _ else _) _
    rw [if_neg (by omega)]
    exact h4
theorem cnt_f {n least most : Nat} (h1 : least ≤ n) (h2 : n ≤ most) (h3 : most < 1000) (h : Rd l x (numB n ++ v)) : (cntR l x least most).1 = n ∧ Rd l (cntR l x least most).2 v := by
  obtain ⟨h4, h5⟩ := nu_f (m := MU) (by omega) (by unfold MU; omega) h
  have e : cntR l x least most = (n, nuN l x MU) := by
    unfold cntR
    rw [if_neg (by rw [h5.1]; simp), h4, if_neg (by omega), if_neg (by omega)]
  rw [e]
  exact ⟨rfl, h5⟩
end fwd
theorem endX_ok {l : List UInt8} {x : Rst} (h : Rd l x []) : endX l x = x := by
  have := congrArg List.length h.2.2
  rw [List.length_drop, List.length_nil] at this
  unfold endX
  rw [if_neg (by omega)]
theorem endX_back {l : List UInt8} {x : Rst} (hi : x.1 ≤ l.length) (h : (endX l x).2.1 = 0) : Rd l x [] := by
  unfold endX at h
  split at h
  · exact absurd h (by simp)
  · rename_i h1
    refine ⟨h, hi, List.drop_eq_nil_of_le (by omega)⟩
theorem dec_fwd {m : DMs} (hm : rightM m = true) : (decM (bytesM m)).1 = m ∧ (endX (bytesM m) (decM (bytesM m)).2).2.1 = 0 := by
  have hm0 := hm
  obtain ⟨k, r, f, ids, es⟩ := m
  obtain ⟨l, hl⟩ : ∃ l, l = bytesM ⟨k, r, f, ids, es⟩ := ⟨_, rfl⟩
  have r0 : Rd l x0 (bytesM ⟨k, r, f, ids, es⟩) := ⟨rfl, Nat.zero_le _, by rw [hl]; rfl⟩
  rw [← hl]
  clear hl
  unfold rightM at hm
  have oth : (!otherM ⟨k, r, f, ids, es⟩) = true → r = false ∧ f = zF := fun ho => by
    simp only [otherM, Bool.not_eq_true', Bool.or_eq_false_iff, Bool.not_eq_false', decide_eq_true_eq] at ho
    exact ho
  obtain ⟨hi0, he0, hb0⟩ := right_es hm0
  simp only at hm hi0 he0 hb0
  by_cases h1 : k = 1
  · subst h1
    rw [if_pos rfl, Bool.and_eq_true, Bool.and_eq_true, decide_eq_true_eq, decide_eq_true_eq] at hm
    obtain ⟨⟨hn, hr⟩, rfl⟩ := hm
    have e : bytesM ⟨1, r, f, ids, []⟩ = (1 : UInt8) :: ((if r then 1 else 0) :: (f.1 ++ (numB ids.length ++ (idsB2 ids ++ [])))) := by
      simp only [bytesM, headM, if_true, esB, List.flatMap_nil, List.length_nil, Nat.add_zero, List.cons_append, List.append_assoc, List.append_nil]
      rfl
    rw [e] at r0
    obtain ⟨a1, r1⟩ := by_f r0
    obtain ⟨a2, r2⟩ := bo_f r1
    obtain ⟨a3, r3⟩ := f_f r2
    obtain ⟨a4, r4⟩ := cnt_f (least := 0) (most := 64) (Nat.zero_le _) hn (by omega) r3
    obtain ⟨a5, r5⟩ := ids_f hr r4 ids.length (Nat.le_refl _)
    unfold decM
    rw [if_pos a1, a4]
    rw [List.take_length] at a5
    rw [List.drop_length] at r5
    refine ⟨?_, ?_⟩
    · simp only [a2, a3, a5]
    · rw [endX_ok r5]; exact r5.1
  rw [if_neg h1] at hm
  by_cases h2 : k = 2
  · subst h2
    rw [if_pos rfl, Bool.and_eq_true, Bool.and_eq_true, Bool.and_eq_true, decide_eq_true_eq] at hm
    obtain ⟨⟨⟨ho, hn⟩, hr⟩, rfl⟩ := hm
    obtain ⟨rfl, rfl⟩ := oth ho
    simp only [batchN, Bool.and_eq_true, decide_eq_true_eq] at hn
    have e : bytesM ⟨2, false, zF, ids, []⟩ = (2 : UInt8) :: (numB ids.length ++ (idsB2 ids ++ [])) := by
      simp only [bytesM, headM, esB, List.flatMap_nil, List.length_nil, Nat.add_zero, List.cons_append, List.append_assoc, List.append_nil]
      rfl
    rw [e] at r0
    obtain ⟨a1, r1⟩ := by_f r0
    obtain ⟨a4, r4⟩ := cnt_f (least := 1) (most := 8) hn.1 hn.2 (by omega) r1
    obtain ⟨a5, r5⟩ := ids_f hr r4 ids.length (Nat.le_refl _)
    unfold decM
    rw [if_neg (by rw [a1]; decide), if_pos a1, a4]
    rw [List.take_length] at a5
    rw [List.drop_length] at r5
    refine ⟨?_, ?_⟩
    · simp only [a5]
    · rw [endX_ok r5]; exact r5.1
  rw [if_neg h2] at hm
  by_cases h3 : k = 3
  · subst h3
    rw [if_pos rfl, Bool.and_eq_true, Bool.and_eq_true, Bool.and_eq_true, decide_eq_true_eq] at hm
    obtain ⟨⟨⟨ho, rfl⟩, hn⟩, hr⟩ := hm
    obtain ⟨rfl, rfl⟩ := oth ho
    simp only [batchN, Bool.and_eq_true, decide_eq_true_eq] at hn
    have e : bytesM ⟨3, false, zF, [], es⟩ = (3 : UInt8) :: (numB es.length ++ (esB es ++ [])) := by
      simp only [bytesM, headM, idsB2, List.flatMap_nil, List.length_nil, Nat.zero_add, List.cons_append, List.append_assoc, List.append_nil, List.nil_append]
      rfl
    rw [e] at r0
    obtain ⟨a1, r1⟩ := by_f r0
    obtain ⟨a4, r4⟩ := cnt_f (least := 1) (most := 8) hn.1 hn.2 (by omega) r1
    obtain ⟨a5, r5⟩ := es_f hb0 r4 es.length (Nat.le_refl _)
    unfold decM
    rw [if_neg (by rw [a1]; decide), if_neg (by rw [a1]; decide), if_pos a1, a4]
    rw [List.take_length] at a5
    rw [List.drop_length] at r5
    refine ⟨?_, ?_⟩
    · simp only [a5]
    · rw [endX_ok r5]; exact r5.1
  · rw [if_neg h3] at hm; cases hm
section back
variable {l : List UInt8} {x : Rst}
theorem by_b (hi : x.1 ≤ l.length) (h : (byN l x).2.1 = 0) : ∃ v, Rd l x (byV l x :: v) ∧ Rd l (byN l x) v := by
  obtain ⟨s, hs, h1, h2⟩ := Rd.back hi (fun c => byE_er) (fun s => byE_ok) h
  refine ⟨_, ?_, h2⟩
  rw [byV, if_pos h1.1]
  cases hd : l.drop x.1 with
  | nil => rw [hd] at hs; cases hs
  | cons b u =>
    rw [hd] at hs h1
    injection hs with hs
    subst hs
    exact h1
theorem bo_b (hi : x.1 ≤ l.length) (h : (boN l x).2.1 = 0) : ∃ v, Rd l x ((if boV l x then 1 else 0) :: v) ∧ Rd l (boN l x) v := by
  obtain ⟨s, hs, h1, h2⟩ := Rd.back hi (fun c => boE_er) (fun s => boE_ok) h
  refine ⟨_, ?_, h2⟩
  rw [boV, if_pos h1.1]
  cases hd : l.drop x.1 with
  | nil => rw [hd] at hs; cases hs
  | cons b u =>
    rw [hd] at hs h1
    simp only [boE] at hs
    split at hs
    · cases hs
    · rename_i hb
      injection hs with hs
      subst hs
      have : b = 0 ∨ b = 1 := by
        have : b.toNat = 0 ∨ b.toNat = 1 := by omega
        rcases this with h | h
        · exact .inl (UInt8.toNat_inj.1 h)
        · exact .inr (UInt8.toNat_inj.1 h)
      rcases this with rfl | rfl <;> simpa using h1
theorem rw_b {m : Nat} (hi : x.1 ≤ l.length) (h : (rwN l x m).2.1 = 0) : (rwV l x m).length = m ∧ ∃ v, Rd l x (rwV l x m ++ v) ∧ Rd l (rwN l x m) v := by
  obtain ⟨s, hs, h1, h2⟩ := Rd.back hi (fun c => rwE_er) (fun s => rwE_ok) h
  have hs0 := hs
  unfold rwE at hs
  split at hs
  · cases hs
  rename_i hn
  injection hs with hs
  subst hs
  have e : rwV l x m = (l.drop x.1).take m := by rw [rwV, if_pos h1.1, if_neg hn]
  refine ⟨by rw [e, List.length_take]; omega, _, ?_, h2⟩
  rw [e, List.take_append_drop]
  exact h1
theorem nu_b {m : Nat} (hi : x.1 ≤ l.length) (h : (nuN l x m).2.1 = 0) : nuV l x m ≤ m ∧ ∃ v, Rd l x (numB (nuV l x m) ++ v) ∧ Rd l (nuN l x m) v := by
  obtain ⟨s, hs, h1, h2⟩ := Rd.back hi (fun c => nuE_er) (fun s => nuE_ok) h
  unfold nuE at hs
  split at hs
  · cases hs
  rename_i n q hN
  split at hs
  · cases hs
  rename_i hm
  injection hs with hs
  subst hs
  have e : nuV l x m = n := by rw [nuV, if_pos h1.1, hN]; simp only; rw [if_neg hm]
  refine ⟨by omega, _, ?_, h2⟩
  rw [e, ← numP_sole _ _ _ hN, List.take_append_drop]
  exact h1
theorem bs_b {m : Nat} (hi : x.1 ≤ l.length) (h : (bsN l x m).2.1 = 0) : (bsV l x m).length ≤ m ∧ ∃ v, Rd l x (numB (bsV l x m).length ++ bsV l x m ++ v) ∧ Rd l (bsN l x m) v := by
  obtain ⟨s, hs, h1, h2⟩ := Rd.back hi (fun c => bsE_er) (fun s => bsE_ok) h
  unfold bsE at hs
  split at hs
  · cases hs
  rename_i n q hN
  split at hs
  · cases hs
  rename_i hm
  split at hs
  · cases hs
  rename_i hq
  injection hs with hs
  subst hs
  have e : bsV l x m = ((l.drop x.1).drop q).take n := by rw [bsV, if_pos h1.1, hN]; simp only; rw [if_neg hm, if_neg hq]
  have hlen : (((l.drop x.1).drop q).take n).length = n := by rw [List.length_take, List.length_drop]; omega
  refine ⟨by rw [e, hlen]; omega, _, ?_, h2⟩
  rw [e, hlen, ← numP_sole _ _ _ hN, List.append_assoc, ← List.drop_drop, List.take_append_drop, List.take_append_drop]
  exact h1
theorem h_b (hi : x.1 ≤ l.length) (h : (rwN l x 32).2.1 = 0) : ∃ v, Rd l x ((hV l x).1 ++ v) ∧ Rd l (rwN l x 32) v := by
  obtain ⟨h1, v, h2, h3⟩ := rw_b hi h
  refine ⟨v, ?_, h3⟩
  unfold hV
  rw [dif_pos h1]
  exact h2
theorem f_b (hi : x.1 ≤ l.length) (h : (rwN l x 64).2.1 = 0) : ∃ v, Rd l x ((fV l x).1 ++ v) ∧ Rd l (rwN l x 64) v := by
  obtain ⟨h1, v, h2, h3⟩ := rw_b hi h
  refine ⟨v, ?_, h3⟩
  unfold fV
  rw [dif_pos h1]
  exact h2
theorem rw_le {m : Nat} (hi : x.1 ≤ l.length) : (rwN l x m).1 ≤ l.length := nxt_le' hi fun s => rwE_ok
theorem er_le {c : Int} (hi : x.1 ≤ l.length) : (nxt x (.error c)).1 ≤ l.length := nxt_le' hi fun s h => by cases h
theorem bs_le {m : Nat} (hi : x.1 ≤ l.length) : (bsN l x m).1 ≤ l.length := nxt_le' hi fun s => bsE_ok
theorem by_le (hi : x.1 ≤ l.length) : (byN l x).1 ≤ l.length := nxt_le' hi fun s => byE_ok
theorem bo_le (hi : x.1 ≤ l.length) : (boN l x).1 ≤ l.length := nxt_le' hi fun s => boE_ok
theorem nu_le {m : Nat} (hi : x.1 ≤ l.length) : (nuN l x m).1 ≤ l.length := nxt_le' hi fun s => nuE_ok
theorem ids_le (hi : x.1 ≤ l.length) : ∀ n, (idsR l x n).2.1 ≤ l.length
  | 0 => hi
  | n + 1 => by
    have := ids_le hi n
    rw [idsR]
    show (if _ then _ else _ : Rst).1 ≤ _
    split
    · exact rw_le this
    · exact er_le (rw_le this)
theorem es_le (hi : x.1 ≤ l.length) : ∀ n, (esR l x n).2.1 ≤ l.length
  | 0 => hi
  | n + 1 => by
    have := es_le hi n
    rw [esR]
    show (if _ then _ else _ : Rst).1 ≤ _
    split
    · exact er_le (bs_le this)
    · exact bs_le this
theorem cnt_le {a b : Nat} (hi : x.1 ≤ l.length) : (cntR l x a b).2.1 ≤ l.length := by
  have := nu_le (m := MU) hi
  unfold cntR
  split
  · exact this
  split
  · exact er_le this
  split
  · exact er_le this
  · exact this
theorem ids_len : ∀ n, (idsR l x n).1.length = n
  | 0 => rfl
  | n + 1 => by rw [idsR]; simp only [List.length_append, ids_len n, List.length_cons, List.length_nil]
theorem es_len : ∀ n, (esR l x n).1.length = n
  | 0 => rfl
  | n + 1 => by rw [esR]; simp only [List.length_append, es_len n, List.length_cons, List.length_nil]
theorem ids_b (hi : x.1 ≤ l.length) : ∀ n, (idsR l x n).2.2.1 = 0 → riseH (idsR l x n).1 = true ∧ ∃ v, Rd l x (idsB2 (idsR l x n).1 ++ v) ∧ Rd l (idsR l x n).2 v
  | 0, h => ⟨riseH_nil, _, ⟨h, hi, rfl⟩, ⟨h, hi, rfl⟩⟩
  | n + 1, h => by
    rw [idsR] at h ⊢
    simp only at h ⊢
    by_cases hr : riseH ((idsR l x n).1 ++ [hV l (idsR l x n).2]) = true
    · rw [if_pos hr] at h ⊢
      have hp : (idsR l x n).2.2.1 = 0 := (nxt_ok (fun c => rwE_er) h).1
      obtain ⟨h1, v, h2, h3⟩ := ids_b hi n hp
      obtain ⟨u, h4, h5⟩ := h_b (ids_le hi n) h
      refine ⟨hr, u, ?_, h5⟩
      have e := h3.eq h4
      rw [e] at h2
      have : idsB2 ((idsR l x n).1 ++ [hV l (idsR l x n).2]) ++ u = idsB2 (idsR l x n).1 ++ ((hV l (idsR l x n).2).1 ++ u) := by simp [idsB2]
      rw [this]
      exact h2
    · rw [if_neg hr] at h
      exact absurd h (nxt_er _ _ (by decide))
theorem es_b (hi : x.1 ≤ l.length) : ∀ n, (esR l x n).2.2.1 = 0 → (∀ b ∈ (esR l x n).1, 1 ≤ b.length ∧ b.length ≤ 4096) ∧ ∃ v, Rd l x (esB (esR l x n).1 ++ v) ∧ Rd l (esR l x n).2 v
  | 0, h => ⟨fun b hb => by simp [esR] at hb, _, ⟨h, hi, rfl⟩, ⟨h, hi, rfl⟩⟩
  | n + 1, h => by
    rw [esR] at h ⊢
    simp only at h ⊢
    by_cases hr : (bsV l (esR l x n).2 4096).length = 0
    · rw [if_pos hr] at h
      exact absurd h (nxt_er _ _ (by decide))
    · rw [if_neg hr] at h ⊢
      have hp : (esR l x n).2.2.1 = 0 := (nxt_ok (fun c => bsE_er) h).1
      obtain ⟨h1, v, h2, h3⟩ := es_b hi n hp
      obtain ⟨h0, u, h4, h5⟩ := bs_b (es_le hi n) h
      refine ⟨fun b hb => ?_, u, ?_, h5⟩
      · rcases List.mem_append.1 hb with hb | hb
        · exact h1 b hb
        · rw [List.mem_singleton.1 hb]; omega
      have e := h3.eq h4
      rw [e] at h2
      have : esB ((esR l x n).1 ++ [bsV l (esR l x n).2 4096]) ++ u = esB (esR l x n).1 ++ (numB (bsV l (esR l x n).2 4096).length ++ bsV l (esR l x n).2 4096 ++ u) := by simp [esB]
      rw [this]
      exact h2
theorem cnt_b {a b : Nat} (hi : x.1 ≤ l.length) (h : (cntR l x a b).2.2.1 = 0) : a ≤ (cntR l x a b).1 ∧ (cntR l x a b).1 ≤ b ∧ ∃ v, Rd l x (numB (cntR l x a b).1 ++ v) ∧ Rd l (cntR l x a b).2 v := by
  unfold cntR at h ⊢
  split at h
  · rename_i h1; exact absurd h h1
  rename_i h1
  split at h
  · exact absurd h (nxt_er _ _ (by decide))
  rename_i h2
  split at h
  · exact absurd h (nxt_er _ _ (by decide))
  rename_i h3
  rw [if_neg h1, if_neg h2, if_neg h3]
  exact ⟨by omega, by omega, (nu_b hi h).2⟩
theorem ids_stop {i : Nat} (h : (idsR l x i).2.2.1 ≠ 0) : ∀ d, (idsR l x (i + d)).2 = (idsR l x i).2
  | 0 => rfl
  | d + 1 => by
    rw [← Nat.add_assoc, idsR]
    show (if _ then _ else _ : Rst) = _
    rw [ids_stop h d, rwN, nuE_no h, nuE_no h, ite_self]
theorem es_stop {i : Nat} (h : (esR l x i).2.2.1 ≠ 0) : ∀ d, (esR l x (i + d)).2 = (esR l x i).2
  | 0 => rfl
  | d + 1 => by
    rw [← Nat.add_assoc, esR]
    show (if _ then _ else _ : Rst) = _
    rw [es_stop h d, bsN, nuE_no h, nuE_no h, ite_self]
theorem cnt_er {a b : Nat} (h : x.2.1 ≠ 0) : cntR l x a b = (0, x) := by
  unfold cntR
  rw [nuN, nuE_no h, if_pos h]
end back
theorem x0_le (l : List UInt8) : x0.1 ≤ l.length := Nat.zero_le _
theorem decM_le (l : List UInt8) : (decM l).2.1 ≤ l.length := by
  unfold decM
  split
  · exact ids_le (cnt_le (rw_le (bo_le (by_le (x0_le l))))) _
  split
  · exact ids_le (cnt_le (by_le (x0_le l))) _
  split
  · exact es_le (cnt_le (by_le (x0_le l))) _
  · exact er_le (by_le (x0_le l))
theorem dec_back {l : List UInt8} (h : (endX l (decM l).2).2.1 = 0) : rightM (decM l).1 = true ∧ bytesM (decM l).1 = l := by
  have he := endX_back (decM_le l) h
  have hb := by_le (x0_le l)
  have r0 : ∀ {v}, Rd l x0 v → l = v := fun hv => hv.2.2
  unfold decM at he ⊢
  by_cases h1 : byV l x0 = 1
  · rw [if_pos h1] at he ⊢
    simp only at he ⊢
    obtain ⟨hr, v5, a5, b5⟩ := ids_b (cnt_le (rw_le (bo_le hb))) _ he.1
    obtain ⟨c1, c2, v4, a4, b4⟩ := cnt_b (rw_le (bo_le hb)) a5.1
    obtain ⟨v3, a3, b3⟩ := f_b (bo_le hb) a4.1
    obtain ⟨v2, a2, b2⟩ := bo_b hb a3.1
    obtain ⟨v1, a1, b1⟩ := by_b (x0_le l) a2.1
    have e5 := he.eq b5
    have e4 := b4.eq a5
    have e3 := b3.eq a4
    have e2 := b2.eq a3
    have e1 := b1.eq a2
    have e0 := r0 a1
    subst e5
    rw [h1, e1, e2, e3, e4] at e0
    have hn := ids_len (l := l) (x := (cntR l (rwN l (boN l (byN l x0)) 64) 0 64).2) (cntR l (rwN l (boN l (byN l x0)) 64) 0 64).1
    generalize (idsR l (cntR l (rwN l (boN l (byN l x0)) 64) 0 64).2 (cntR l (rwN l (boN l (byN l x0)) 64) 0 64).1).1 = I at hr e0 hn ⊢
    refine ⟨?_, ?_⟩
    · unfold rightM
      rw [if_pos rfl, hr, hn, decide_eq_true c2]
      simp
    · refine Eq.trans ?_ e0.symm
      simp only [bytesM, headM, if_true, esB, List.flatMap_nil, List.length_nil, Nat.add_zero, List.cons_append, List.append_assoc, List.append_nil, hn]
      rfl
  rw [if_neg h1] at he ⊢
  by_cases h2 : byV l x0 = 2
  · rw [if_pos h2] at he ⊢
    simp only at he ⊢
    obtain ⟨hr, v5, a5, b5⟩ := ids_b (cnt_le hb) _ he.1
    obtain ⟨c1, c2, v4, a4, b4⟩ := cnt_b hb a5.1
    obtain ⟨v1, a1, b1⟩ := by_b (x0_le l) a4.1
    have e5 := he.eq b5
    have e4 := b4.eq a5
    have e1 := b1.eq a4
    have e0 := r0 a1
    subst e5
    rw [h2, e1, e4] at e0
    have hn := ids_len (l := l) (x := (cntR l (byN l x0) 1 8).2) (cntR l (byN l x0) 1 8).1
    generalize (idsR l (cntR l (byN l x0) 1 8).2 (cntR l (byN l x0) 1 8).1).1 = I at hr e0 hn ⊢
    refine ⟨?_, ?_⟩
    · unfold rightM
      rw [if_neg (by simp), if_pos rfl, hr]
      simp only [otherM, batchN, hn, decide_eq_true c1, decide_eq_true c2]
      simp
    · refine Eq.trans ?_ e0.symm
      simp only [bytesM, headM, esB, List.flatMap_nil, List.length_nil, Nat.add_zero, List.cons_append, List.append_assoc, List.append_nil, hn]
      rfl
  rw [if_neg h2] at he ⊢
  by_cases h3 : byV l x0 = 3
  · rw [if_pos h3] at he ⊢
    simp only at he ⊢
    obtain ⟨hr, v5, a5, b5⟩ := es_b (cnt_le hb) _ he.1
    obtain ⟨c1, c2, v4, a4, b4⟩ := cnt_b hb a5.1
    obtain ⟨v1, a1, b1⟩ := by_b (x0_le l) a4.1
    have e5 := he.eq b5
    have e4 := b4.eq a5
    have e1 := b1.eq a4
    have e0 := r0 a1
    subst e5
    rw [h3, e1, e4] at e0
    have hn := es_len (l := l) (x := (cntR l (byN l x0) 1 8).2) (cntR l (byN l x0) 1 8).1
    generalize (esR l (cntR l (byN l x0) 1 8).2 (cntR l (byN l x0) 1 8).1).1 = I at hr e0 hn ⊢
    refine ⟨?_, ?_⟩
    · unfold rightM
      rw [if_neg (by simp), if_neg (by simp), if_pos rfl]
      have hany : I.any badE = false := by
        rw [List.any_eq_false]
        intro b hb
        have := hr b hb
        simp only [badE, Bool.or_eq_true, decide_eq_true_eq]
        omega
      simp only [otherM, batchN, hn, decide_eq_true c1, decide_eq_true c2, hany]
      simp
    · refine Eq.trans ?_ e0.symm
      simp only [bytesM, headM, idsB2, List.flatMap_nil, List.length_nil, Nat.zero_add, List.cons_append, List.append_assoc, List.append_nil, List.nil_append, hn]
      rfl
  · rw [if_neg h3] at he
    exact absurd he.1 (nxt_er _ _ (by decide))
end Go.Proofs.YtonncfminojejaaGreatDoor

namespace Go.Proofs.YtonncfminojejaaGreatDoor
open Go.RowKit
section
set_option maxRecDepth 200000
set_option maxHeartbeats 8000000
theorem hEq_d (own own2 : Own) (p q : List H32) (hp : p.length ≤ 1000000) (hq : q.length ≤ 1000000) : DPure Tryz.prog 51 [.sl own (p.map encH), .sl own2 (q.map encH)] (.v (.bool (decide (p = q)))) := by
  refine dpure_of_dwp mixed Tryz.func51 rfl (fun _ _ => by kernel_rfl) (rs := [.tmp 4]) rfl (by kernel_rfl) trivial (fun S hS => ?_)
  by_cases hl : p.length = q.length
  · have b0 : ((p.length : Int) != (q.length : Int)) = false := by simp [hl]
    (simp (disch := first | decide | omega | (simp only [nx]; first | done | omega)) only [go_sem, b0]; (repeat with_reducible refine aI ?_))
    (refine dloop_st (fun t => List.contains [4, 5, 13, 14, 15, 16, 17, 18, 19, 20, 21, 22, 23, 24, 25] t) (by kernel_rfl) ?_ (p.length) (fun i f => i ≤ p.length ∧ f 13 = .v (.int .i64 (i : Nat)) ∧ (∀ j, j < i → p[j]? = q[j]?)) ?_ ?_; (exact (by (repeat' first | assumption | refine St.WF.leave ?_ _ | refine St.WF.add ?_ _ | refine St.WF.set ?_ ?_ _ | refine St.WF.grow ?_ _ _ _ | refine St.WF.keep ?_ ?_ | (first | omega | (simp only [RowOk.lo, nx]; first | done | omega))))); (exact ⟨(by omega), (by (first | (simp (disch := first | decide | omega | (simp only [nx]; first | done | omega)) only [go_sem]; first | done | rfl) | rfl)), (fun j hj => by omega)⟩); intro i g tn hn hT hg hI; obtain ⟨le, q13, hsame⟩ := hI; have q0 := hg 0 rfl; have q1 := hg 1 rfl; have q12 := hg 12 rfl; simp (disch := first | decide | omega | (simp only [nx]; first | done | omega)) only [go_sem] at q0 q1 q12; clear hg; have hn' := hn; try simp only [add_next, set_next, grow_next, leave_next, drop_next] at hn')
    by_cases hlt : i < p.length
    · have b1 : decide ((i : Int) < (p.length : Int)) = true := by simp; omega
      have w1 : IntKind.i64.wrap ((i : Int) + 1) = ((i + 1 : Nat) : Int) := IntWalk.i64_in _ ⟨by omega, by omega⟩
      have hlt2 : i < q.length := by omega
      have lh := p[i].2
      have lh2 := q[i].2
      (simp (disch := first | decide | omega | (simp only [nx]; first | done | omega)) only [go_sem, q0, q1, q12, q13, b1]; (repeat with_reducible refine aI ?_))
      refine ddraw_mk 9 (by kernel_rfl) ?_
      by_cases hx : p[i] = q[i]
      · have b2 : (!decide (p[i] = q[i])) = false := by simp [hx]
        (simp (disch := first | decide | omega | (simp only [nx]; first | done | omega)) only [go_sem, q0, q1, q12, q13, b1, b2, w1, hlt, hlt2, lh, lh2]; (repeat with_reducible refine aI ?_))
        (refine ⟨by omega, (by (repeat' first | assumption | exact St.Sub.refl _ | exact RowOk.sub (by assumption) (by assumption) | refine St.Sub.trans ?_ (RowOk.sub (by assumption) (by assumption)) | refine St.Sub.add ?_ ?_ _ | refine St.Sub.set ?_ ?_ ?_ _ | refine St.Sub.keep ?_ ?_ | refine St.WF.leave ?_ _ | refine St.WF.add ?_ _ | refine St.WF.set ?_ ?_ _ | refine St.WF.grow ?_ _ _ _ | refine St.WF.keep ?_ ?_ | (first | omega | (simp only [RowOk.lo, nx]; first | done | omega)))), ?_⟩; refine ⟨by omega, ?_, ?_⟩; all_goals (try (first | (simp (disch := first | decide | omega | (simp only [nx]; first | done | omega)) only [go_sem, w1]; first | done | rfl) | rfl)))
        intro j hj
        by_cases e : j = i
        · subst e; rw [List.getElem?_eq_getElem hlt, List.getElem?_eq_getElem hlt2, hx]
        · exact hsame j (by omega)
      · have b2 : (!decide (p[i] = q[i])) = true := by simp [hx]
        (simp (disch := first | decide | omega | (simp only [nx]; first | done | omega)) only [go_sem, q0, q1, q12, q13, b1, b2, hlt, hlt2, lh, lh2]; (repeat with_reducible refine aI ?_))
        refine ⟨?_, (by (repeat' first | assumption | exact St.Sub.refl _ | exact RowOk.sub (by assumption) (by assumption) | refine St.Sub.trans ?_ (RowOk.sub (by assumption) (by assumption)) | refine St.Sub.add ?_ ?_ _ | refine St.Sub.set ?_ ?_ ?_ _ | refine St.Sub.keep ?_ ?_ | refine St.WF.leave ?_ _ | refine St.WF.add ?_ _ | refine St.WF.set ?_ ?_ _ | refine St.WF.grow ?_ _ _ _ | refine St.WF.keep ?_ ?_ | (first | omega | (simp only [RowOk.lo, nx]; first | done | omega))))⟩
        rw [decide_eq_false]
        · rfl
        · intro e; subst e; exact hx rfl
    · have b1 : decide ((i : Int) < (p.length : Int)) = false := by simp; omega
      (simp (disch := first | decide | omega | (simp only [nx]; first | done | omega)) only [go_sem, q0, q1, q12, q13, b1]; (repeat with_reducible refine aI ?_))
      refine ⟨?_, (by (repeat' first | assumption | exact St.Sub.refl _ | exact RowOk.sub (by assumption) (by assumption) | refine St.Sub.trans ?_ (RowOk.sub (by assumption) (by assumption)) | refine St.Sub.add ?_ ?_ _ | refine St.Sub.set ?_ ?_ ?_ _ | refine St.Sub.keep ?_ ?_ | refine St.WF.leave ?_ _ | refine St.WF.add ?_ _ | refine St.WF.set ?_ ?_ _ | refine St.WF.grow ?_ _ _ _ | refine St.WF.keep ?_ ?_ | (first | omega | (simp only [RowOk.lo, nx]; first | done | omega))))⟩
      rw [decide_eq_true]
      · rfl
      · refine List.ext_getElem? fun j => ?_
        by_cases hj : j < i
        · exact hsame j hj
        · rw [List.getElem?_eq_none (by omega), List.getElem?_eq_none (by omega)]
  · have b0 : ((p.length : Int) != (q.length : Int)) = true := by simp; omega
    (simp (disch := first | decide | omega | (simp only [nx]; first | done | omega)) only [go_sem, b0]; (repeat with_reducible refine aI ?_))
    refine ⟨?_, (by (repeat' first | assumption | exact St.Sub.refl _ | exact RowOk.sub (by assumption) (by assumption) | refine St.Sub.trans ?_ (RowOk.sub (by assumption) (by assumption)) | refine St.Sub.add ?_ ?_ _ | refine St.Sub.set ?_ ?_ ?_ _ | refine St.Sub.keep ?_ ?_ | refine St.WF.leave ?_ _ | refine St.WF.add ?_ _ | refine St.WF.set ?_ ?_ _ | refine St.WF.grow ?_ _ _ _ | refine St.WF.keep ?_ ?_ | (first | omega | (simp only [RowOk.lo, nx]; first | done | omega))))⟩
    rw [decide_eq_false]
    · rfl
    · intro e; subst e; exact hl rfl
theorem bEq_d (own own2 : Own) (p q : List UInt8) (hp : p.length ≤ 1000000) (hq : q.length ≤ 1000000) : DPure Tryz.prog 53 [.sl own (p.map bD), .sl own2 (q.map bD)] (.v (.bool (decide (p = q)))) := by
  refine dpure_of_dwp mixed Tryz.func53 rfl (fun _ _ => by kernel_rfl) (rs := [.tmp 4]) rfl (by kernel_rfl) trivial (fun S hS => ?_)
  by_cases hl : p.length = q.length
  · have b0 : ((p.length : Int) != (q.length : Int)) = false := by simp [hl]
    (simp (disch := first | decide | omega | (simp only [nx]; first | done | omega)) only [go_sem, b0]; (repeat with_reducible refine aI ?_))
    (refine dloop_st (fun t => List.contains [4, 5, 13, 14, 15, 16, 17, 18, 19, 20, 21, 22, 23, 24, 25] t) (by kernel_rfl) ?_ (p.length) (fun i f => i ≤ p.length ∧ f 13 = .v (.int .i64 (i : Nat)) ∧ (∀ j, j < i → p[j]? = q[j]?)) ?_ ?_; (exact (by (repeat' first | assumption | refine St.WF.leave ?_ _ | refine St.WF.add ?_ _ | refine St.WF.set ?_ ?_ _ | refine St.WF.grow ?_ _ _ _ | refine St.WF.keep ?_ ?_ | (first | omega | (simp only [RowOk.lo, nx]; first | done | omega))))); (exact ⟨(by omega), (by (first | (simp (disch := first | decide | omega | (simp only [nx]; first | done | omega)) only [go_sem]; first | done | rfl) | rfl)), (fun j hj => by omega)⟩); intro i g tn hn hT hg hI; obtain ⟨le, q13, hsame⟩ := hI; have q0 := hg 0 rfl; have q1 := hg 1 rfl; have q12 := hg 12 rfl; simp (disch := first | decide | omega | (simp only [nx]; first | done | omega)) only [go_sem] at q0 q1 q12; clear hg; have hn' := hn; try simp only [add_next, set_next, grow_next, leave_next, drop_next] at hn')
    by_cases hlt : i < p.length
    · have b1 : decide ((i : Int) < (p.length : Int)) = true := by simp; omega
      have w1 : IntKind.i64.wrap ((i : Int) + 1) = ((i + 1 : Nat) : Int) := IntWalk.i64_in _ ⟨by omega, by omega⟩
      have hlt2 : i < q.length := by omega
      have hgp := getD_map bD p i hlt
      have hgq := getD_map bD q i hlt2
      (simp (disch := first | decide | omega | (simp only [nx]; first | done | omega)) only [go_sem, q0, q1, q12, q13, b1]; (repeat with_reducible refine aI ?_))
      refine ddraw_mk 9 (by kernel_rfl) ?_
      by_cases hx : p[i] = q[i]
      · have b2 : ((p[i].toNat : Int) != (q[i].toNat : Int)) = false := by simp [hx]
        (simp (disch := first | decide | omega | (simp only [nx]; first | done | omega)) only [go_sem, q0, q1, q12, q13, b1, b2, w1, hlt, hlt2, hgp, hgq, bD_eq]; (repeat with_reducible refine aI ?_))
        (refine ⟨by omega, (by (repeat' first | assumption | exact St.Sub.refl _ | exact RowOk.sub (by assumption) (by assumption) | refine St.Sub.trans ?_ (RowOk.sub (by assumption) (by assumption)) | refine St.Sub.add ?_ ?_ _ | refine St.Sub.set ?_ ?_ ?_ _ | refine St.Sub.keep ?_ ?_ | refine St.WF.leave ?_ _ | refine St.WF.add ?_ _ | refine St.WF.set ?_ ?_ _ | refine St.WF.grow ?_ _ _ _ | refine St.WF.keep ?_ ?_ | (first | omega | (simp only [RowOk.lo, nx]; first | done | omega)))), ?_⟩; refine ⟨by omega, ?_, ?_⟩; all_goals (try (first | (simp (disch := first | decide | omega | (simp only [nx]; first | done | omega)) only [go_sem, w1]; first | done | rfl) | rfl)))
        intro j hj
        by_cases e : j = i
        · subst e; rw [List.getElem?_eq_getElem hlt, List.getElem?_eq_getElem hlt2, hx]
        · exact hsame j (by omega)
      · have b2 : ((p[i].toNat : Int) != (q[i].toNat : Int)) = true := bne_iff_ne.2 fun h => hx (UInt8.toNat_inj.1 (by omega))
        (simp (disch := first | decide | omega | (simp only [nx]; first | done | omega)) only [go_sem, q0, q1, q12, q13, b1, b2, hlt, hlt2, hgp, hgq, bD_eq]; (repeat with_reducible refine aI ?_))
        refine ⟨?_, (by (repeat' first | assumption | exact St.Sub.refl _ | exact RowOk.sub (by assumption) (by assumption) | refine St.Sub.trans ?_ (RowOk.sub (by assumption) (by assumption)) | refine St.Sub.add ?_ ?_ _ | refine St.Sub.set ?_ ?_ ?_ _ | refine St.Sub.keep ?_ ?_ | refine St.WF.leave ?_ _ | refine St.WF.add ?_ _ | refine St.WF.set ?_ ?_ _ | refine St.WF.grow ?_ _ _ _ | refine St.WF.keep ?_ ?_ | (first | omega | (simp only [RowOk.lo, nx]; first | done | omega))))⟩
        rw [decide_eq_false]
        · rfl
        · intro e; subst e; exact hx rfl
    · have b1 : decide ((i : Int) < (p.length : Int)) = false := by simp; omega
      (simp (disch := first | decide | omega | (simp only [nx]; first | done | omega)) only [go_sem, q0, q1, q12, q13, b1]; (repeat with_reducible refine aI ?_))
      refine ⟨?_, (by (repeat' first | assumption | exact St.Sub.refl _ | exact RowOk.sub (by assumption) (by assumption) | refine St.Sub.trans ?_ (RowOk.sub (by assumption) (by assumption)) | refine St.Sub.add ?_ ?_ _ | refine St.Sub.set ?_ ?_ ?_ _ | refine St.Sub.keep ?_ ?_ | refine St.WF.leave ?_ _ | refine St.WF.add ?_ _ | refine St.WF.set ?_ ?_ _ | refine St.WF.grow ?_ _ _ _ | refine St.WF.keep ?_ ?_ | (first | omega | (simp only [RowOk.lo, nx]; first | done | omega))))⟩
      rw [decide_eq_true]
      · rfl
      · refine List.ext_getElem? fun j => ?_
        by_cases hj : j < i
        · exact hsame j hj
        · rw [List.getElem?_eq_none (by omega), List.getElem?_eq_none (by omega)]
  · have b0 : ((p.length : Int) != (q.length : Int)) = true := by simp; omega
    (simp (disch := first | decide | omega | (simp only [nx]; first | done | omega)) only [go_sem, b0]; (repeat with_reducible refine aI ?_))
    refine ⟨?_, (by (repeat' first | assumption | exact St.Sub.refl _ | exact RowOk.sub (by assumption) (by assumption) | refine St.Sub.trans ?_ (RowOk.sub (by assumption) (by assumption)) | refine St.Sub.add ?_ ?_ _ | refine St.Sub.set ?_ ?_ ?_ _ | refine St.Sub.keep ?_ ?_ | refine St.WF.leave ?_ _ | refine St.WF.add ?_ _ | refine St.WF.set ?_ ?_ _ | refine St.WF.grow ?_ _ _ _ | refine St.WF.keep ?_ ?_ | (first | omega | (simp only [RowOk.lo, nx]; first | done | omega))))⟩
    rw [decide_eq_false]
    · rfl
    · intro e; subst e; exact hl rfl
theorem esEq_d (own own2 : Own) (p q : List (List UInt8)) (hp : p.length ≤ 1000000) (hq : q.length ≤ 1000000) (hpb : ∀ b ∈ p, b.length ≤ 1000000) (hqb : ∀ b ∈ q, b.length ≤ 1000000) : DPure Tryz.prog 52 [.sl own (p.map encB), .sl own2 (q.map encB), .fn (.func 53) [] []] (.v (.bool (decide (p = q)))) := by
  refine dpure_of_dwp mixed Tryz.func52 rfl (fun _ _ => by kernel_rfl) (rs := [.tmp 6]) rfl (by kernel_rfl) trivial (fun S hS => ?_)
  by_cases hl : p.length = q.length
  · have b0 : ((p.length : Int) != (q.length : Int)) = false := by simp [hl]
    (simp (disch := first | decide | omega | (simp only [nx]; first | done | omega)) only [go_sem, b0]; (repeat with_reducible refine aI ?_))
    (refine dloop_st (fun t => List.contains [6, 7, 8, 9, 17, 18, 19, 20, 21, 22, 23, 24, 25, 26, 27, 28, 29, 30, 31] t) (by kernel_rfl) ?_ (p.length) (fun i f => i ≤ p.length ∧ f 17 = .v (.int .i64 (i : Nat)) ∧ (∀ j, j < i → p[j]? = q[j]?)) ?_ ?_; (exact (by (repeat' first | assumption | refine St.WF.leave ?_ _ | refine St.WF.add ?_ _ | refine St.WF.set ?_ ?_ _ | refine St.WF.grow ?_ _ _ _ | refine St.WF.keep ?_ ?_ | (first | omega | (simp only [RowOk.lo, nx]; first | done | omega))))); (exact ⟨(by omega), (by (first | (simp (disch := first | decide | omega | (simp only [nx]; first | done | omega)) only [go_sem]; first | done | rfl) | rfl)), (fun j hj => by omega)⟩); intro i g tn hn hT hg hI; obtain ⟨le, q17, hsame⟩ := hI; have q1 := hg 1 rfl; have q2 := hg 2 rfl; have q15 := hg 15 rfl; have q16 := hg 16 rfl; simp (disch := first | decide | omega | (simp only [nx]; first | done | omega)) only [go_sem] at q1 q2 q15 q16; clear hg; have hn' := hn; try simp only [add_next, set_next, grow_next, leave_next, drop_next] at hn')
    by_cases hlt : i < p.length
    · have b1 : decide ((i : Int) < (p.length : Int)) = true := by simp; omega
      have w1 : IntKind.i64.wrap ((i : Int) + 1) = ((i + 1 : Nat) : Int) := IntWalk.i64_in _ ⟨by omega, by omega⟩
      have hlt2 : i < q.length := by omega
      have ce := cells_encB p[i]
      have ce2 := cells_encB q[i]
      (simp (disch := first | decide | omega | (simp only [nx]; first | done | omega)) only [go_sem, q1, q2, q15, q16, q17, b1, hlt, hlt2, ce, ce2]; (repeat with_reducible refine aI ?_))
      refine DCalls.of_pure (bEq_d .no .no p[i] q[i] (hpb _ (List.getElem_mem hlt)) (hqb _ (List.getElem_mem hlt2))) ?_
      by_cases hx : p[i] = q[i]
      · have b2 : decide (p[i] = q[i]) = true := decide_eq_true hx
        (simp (disch := first | decide | omega | (simp only [nx]; first | done | omega)) only [go_sem, q17, b2, w1]; (repeat with_reducible refine aI ?_))
        (refine ⟨by omega, (by (repeat' first | assumption | exact St.Sub.refl _ | exact RowOk.sub (by assumption) (by assumption) | refine St.Sub.trans ?_ (RowOk.sub (by assumption) (by assumption)) | refine St.Sub.add ?_ ?_ _ | refine St.Sub.set ?_ ?_ ?_ _ | refine St.Sub.keep ?_ ?_ | refine St.WF.leave ?_ _ | refine St.WF.add ?_ _ | refine St.WF.set ?_ ?_ _ | refine St.WF.grow ?_ _ _ _ | refine St.WF.keep ?_ ?_ | (first | omega | (simp only [RowOk.lo, nx]; first | done | omega)))), ?_⟩; refine ⟨by omega, ?_, ?_⟩; all_goals (try (first | (simp (disch := first | decide | omega | (simp only [nx]; first | done | omega)) only [go_sem, w1]; first | done | rfl) | rfl)))
        intro j hj
        by_cases e : j = i
        · subst e; rw [List.getElem?_eq_getElem hlt, List.getElem?_eq_getElem hlt2, hx]
        · exact hsame j (by omega)
      · have b2 : decide (p[i] = q[i]) = false := decide_eq_false hx
        (simp (disch := first | decide | omega | (simp only [nx]; first | done | omega)) only [go_sem, b2]; (repeat with_reducible refine aI ?_))
        refine ⟨?_, (by (repeat' first | assumption | exact St.Sub.refl _ | exact RowOk.sub (by assumption) (by assumption) | refine St.Sub.trans ?_ (RowOk.sub (by assumption) (by assumption)) | refine St.Sub.add ?_ ?_ _ | refine St.Sub.set ?_ ?_ ?_ _ | refine St.Sub.keep ?_ ?_ | refine St.WF.leave ?_ _ | refine St.WF.add ?_ _ | refine St.WF.set ?_ ?_ _ | refine St.WF.grow ?_ _ _ _ | refine St.WF.keep ?_ ?_ | (first | omega | (simp only [RowOk.lo, nx]; first | done | omega))))⟩
        rw [decide_eq_false]
        · rfl
        · intro e; subst e; exact hx rfl
    · have b1 : decide ((i : Int) < (p.length : Int)) = false := by simp; omega
      (simp (disch := first | decide | omega | (simp only [nx]; first | done | omega)) only [go_sem, q1, q2, q15, q16, q17, b1]; (repeat with_reducible refine aI ?_))
      refine ⟨?_, (by (repeat' first | assumption | exact St.Sub.refl _ | exact RowOk.sub (by assumption) (by assumption) | refine St.Sub.trans ?_ (RowOk.sub (by assumption) (by assumption)) | refine St.Sub.add ?_ ?_ _ | refine St.Sub.set ?_ ?_ ?_ _ | refine St.Sub.keep ?_ ?_ | refine St.WF.leave ?_ _ | refine St.WF.add ?_ _ | refine St.WF.set ?_ ?_ _ | refine St.WF.grow ?_ _ _ _ | refine St.WF.keep ?_ ?_ | (first | omega | (simp only [RowOk.lo, nx]; first | done | omega))))⟩
      rw [decide_eq_true]
      · rfl
      · refine List.ext_getElem? fun j => ?_
        by_cases hj : j < i
        · exact hsame j hj
        · rw [List.getElem?_eq_none (by omega), List.getElem?_eq_none (by omega)]
  · have b0 : ((p.length : Int) != (q.length : Int)) = true := by simp; omega
    (simp (disch := first | decide | omega | (simp only [nx]; first | done | omega)) only [go_sem, b0]; (repeat with_reducible refine aI ?_))
    refine ⟨?_, (by (repeat' first | assumption | exact St.Sub.refl _ | exact RowOk.sub (by assumption) (by assumption) | refine St.Sub.trans ?_ (RowOk.sub (by assumption) (by assumption)) | refine St.Sub.add ?_ ?_ _ | refine St.Sub.set ?_ ?_ ?_ _ | refine St.Sub.keep ?_ ?_ | refine St.WF.leave ?_ _ | refine St.WF.add ?_ _ | refine St.WF.set ?_ ?_ _ | refine St.WF.grow ?_ _ _ _ | refine St.WF.keep ?_ ?_ | (first | omega | (simp only [RowOk.lo, nx]; first | done | omega))))⟩
    rw [decide_eq_false]
    · rfl
    · intro e; subst e; exact hl rfl
theorem msame_d (a b : DMs) (ha : a.ids.length ≤ 1000000) (ha2 : a.es.length ≤ 1000000) (ha3 : ∀ x ∈ a.es, x.length ≤ 1000000) (hb : b.ids.length ≤ 1000000) (hb2 : b.es.length ≤ 1000000) (hb3 : ∀ x ∈ b.es, x.length ≤ 1000000) : DPure Tryz.prog 16 [encMs a, encMs b] (.v (.bool (decide (a = b)))) := by
  refine dpure_of_dwp mixed Tryz.func16 rfl (fun _ _ => by kernel_rfl) (rs := [.tmp 4]) rfl (by kernel_rfl) trivial (fun S hS => ?_)
  have fin : ∀ {v : Bool}, v = decide (a = b) → (D.v (.bool v)).frz = D.v (.bool (decide (a = b))) := fun h => by rw [h]; rfl
  have ff : ∀ {c : Prop} [Decidable c], (a = b → c) → ¬ c → false = decide (a = b) := fun h1 h2 => (decide_eq_false fun e => h2 (h1 e)).symm
  by_cases hk : a.k = b.k
  · have b0 : (a.k == b.k) = true := by simp [hk]
    by_cases hr : a.r = b.r
    · have b1 : (a.r == b.r) = true := by simp [hr]
      by_cases hf : a.f = b.f
      · have b2 : decide (a.f = b.f) = true := decide_eq_true hf
        (simp (disch := first | decide | omega | (simp only [nx]; first | done | omega)) only [go_sem, b0, b1, b2, bin_beqW]; (repeat with_reducible refine aI ?_))
        refine DCalls.of_pure (hEq_d .no .no a.ids b.ids ha hb) ?_
        by_cases hi : a.ids = b.ids
        · have b3 : decide (a.ids = b.ids) = true := decide_eq_true hi
          (simp (disch := first | decide | omega | (simp only [nx]; first | done | omega)) only [go_sem, b3]; (repeat with_reducible refine aI ?_))
          refine DCalls.of_pure (esEq_d .no .no a.es b.es ha2 hb2 ha3 hb3) ?_
          (simp (disch := first | decide | omega | (simp only [nx]; first | done | omega)) only [go_sem]; (repeat with_reducible refine aI ?_))
          refine ⟨?_, (by (repeat' first | assumption | exact St.Sub.refl _ | exact RowOk.sub (by assumption) (by assumption) | refine St.Sub.trans ?_ (RowOk.sub (by assumption) (by assumption)) | refine St.Sub.add ?_ ?_ _ | refine St.Sub.set ?_ ?_ ?_ _ | refine St.Sub.keep ?_ ?_ | refine St.WF.leave ?_ _ | refine St.WF.add ?_ _ | refine St.WF.set ?_ ?_ _ | refine St.WF.grow ?_ _ _ _ | refine St.WF.keep ?_ ?_ | (first | omega | (simp only [RowOk.lo, nx]; first | done | omega))))⟩
          refine fin (decide_eq_decide.2 ⟨fun he => ?_, fun e => by rw [e]⟩)
          obtain ⟨k1, r1, f1, i1, e1⟩ := a
          obtain ⟨k2, r2, f2, i2, e2⟩ := b
          simp only at hk hr hf hi he
          rw [hk, hr, hf, hi, he]
        · have b3 : decide (a.ids = b.ids) = false := decide_eq_false hi
          (simp (disch := first | decide | omega | (simp only [nx]; first | done | omega)) only [go_sem, b3]; (repeat with_reducible refine aI ?_))
          refine ⟨?_, (by (repeat' first | assumption | exact St.Sub.refl _ | exact RowOk.sub (by assumption) (by assumption) | refine St.Sub.trans ?_ (RowOk.sub (by assumption) (by assumption)) | refine St.Sub.add ?_ ?_ _ | refine St.Sub.set ?_ ?_ ?_ _ | refine St.Sub.keep ?_ ?_ | refine St.WF.leave ?_ _ | refine St.WF.add ?_ _ | refine St.WF.set ?_ ?_ _ | refine St.WF.grow ?_ _ _ _ | refine St.WF.keep ?_ ?_ | (first | omega | (simp only [RowOk.lo, nx]; first | done | omega))))⟩
          exact fin (ff (fun e => by rw [e]) hi)
      · have b2 : decide (a.f = b.f) = false := decide_eq_false hf
        (simp (disch := first | decide | omega | (simp only [nx]; first | done | omega)) only [go_sem, b0, b1, b2, bin_beqW]; (repeat with_reducible refine aI ?_))
        refine ⟨?_, (by (repeat' first | assumption | exact St.Sub.refl _ | exact RowOk.sub (by assumption) (by assumption) | refine St.Sub.trans ?_ (RowOk.sub (by assumption) (by assumption)) | refine St.Sub.add ?_ ?_ _ | refine St.Sub.set ?_ ?_ ?_ _ | refine St.Sub.keep ?_ ?_ | refine St.WF.leave ?_ _ | refine St.WF.add ?_ _ | refine St.WF.set ?_ ?_ _ | refine St.WF.grow ?_ _ _ _ | refine St.WF.keep ?_ ?_ | (first | omega | (simp only [RowOk.lo, nx]; first | done | omega))))⟩
        exact fin (ff (fun e => by rw [e]) hf)
    · have b1 : (a.r == b.r) = false := by simp [hr]
      (simp (disch := first | decide | omega | (simp only [nx]; first | done | omega)) only [go_sem, b0, b1, bin_beqW]; (repeat with_reducible refine aI ?_))
      refine ⟨?_, (by (repeat' first | assumption | exact St.Sub.refl _ | exact RowOk.sub (by assumption) (by assumption) | refine St.Sub.trans ?_ (RowOk.sub (by assumption) (by assumption)) | refine St.Sub.add ?_ ?_ _ | refine St.Sub.set ?_ ?_ ?_ _ | refine St.Sub.keep ?_ ?_ | refine St.WF.leave ?_ _ | refine St.WF.add ?_ _ | refine St.WF.set ?_ ?_ _ | refine St.WF.grow ?_ _ _ _ | refine St.WF.keep ?_ ?_ | (first | omega | (simp only [RowOk.lo, nx]; first | done | omega))))⟩
      exact fin (ff (fun e => by rw [e]) hr)
  · have b0 : (a.k == b.k) = false := by simp [hk]
    (simp (disch := first | decide | omega | (simp only [nx]; first | done | omega)) only [go_sem, b0]; (repeat with_reducible refine aI ?_))
    refine ⟨?_, (by (repeat' first | assumption | exact St.Sub.refl _ | exact RowOk.sub (by assumption) (by assumption) | refine St.Sub.trans ?_ (RowOk.sub (by assumption) (by assumption)) | refine St.Sub.add ?_ ?_ _ | refine St.Sub.set ?_ ?_ ?_ _ | refine St.Sub.keep ?_ ?_ | refine St.WF.leave ?_ _ | refine St.WF.add ?_ _ | refine St.WF.set ?_ ?_ _ | refine St.WF.grow ?_ _ _ _ | refine St.WF.keep ?_ ?_ | (first | omega | (simp only [RowOk.lo, nx]; first | done | omega))))⟩
    exact fin (ff (fun e => by rw [e]) hk)
def tailM (m : DMs) : Bool :=
  if m.k = 1 then decide (m.es = []) && decide (m.ids.length ≤ 64)
  else if m.k = 2 then !m.r && (decide (m.f = zF) && (decide (m.es = []) && (decide (0 < m.ids.length) && decide (m.ids.length ≤ 8))))
  else if m.k = 3 then !m.r && (decide (m.f = zF) && (decide (m.ids = []) && (decide (0 < m.es.length) && decide (m.es.length ≤ 8))))
  else false
theorem bool_ext3 {a b : Bool} (h : a = true ↔ b = true) : a = b := Bool.eq_iff_iff.2 h
theorem rightM_eq (m : DMs) : rightM m = (riseH m.ids && (!(m.es.any badE) && tailM m)) := by
  unfold rightM tailM otherM batchN
  by_cases k1 : m.k = 1
  · rw [if_pos k1, if_pos k1]
    refine bool_ext3 ?_
    simp only [Bool.and_eq_true, decide_eq_true_eq]
    refine ⟨fun h => ⟨h.1.2, by rw [h.2]; rfl, h.2, h.1.1⟩, fun h => ⟨⟨h.2.2.2, h.1⟩, h.2.2.1⟩⟩
  rw [if_neg k1, if_neg k1]
  by_cases k2 : m.k = 2
  · rw [if_pos k2, if_pos k2]
    refine bool_ext3 ?_
    simp only [Bool.and_eq_true, decide_eq_true_eq, Bool.not_eq_true', Bool.or_eq_false_iff, Bool.not_eq_false']
    refine ⟨fun h => ⟨h.1.2, by rw [h.2]; rfl, h.1.1.1.1, h.1.1.1.2, h.2, by omega, by omega⟩, fun h => ⟨⟨⟨⟨h.2.2.1, h.2.2.2.1⟩, by omega, by omega⟩, h.1⟩, h.2.2.2.2.1⟩⟩
  rw [if_neg k2, if_neg k2]
  by_cases k3 : m.k = 3
  · rw [if_pos k3, if_pos k3]
    refine bool_ext3 ?_
    simp only [Bool.and_eq_true, decide_eq_true_eq, Bool.not_eq_true', Bool.or_eq_false_iff, Bool.not_eq_false']
    refine ⟨fun h => ⟨by rw [h.1.1.2]; exact riseH_nil, h.2, h.1.1.1.1, h.1.1.1.2, h.1.1.2, by omega, by omega⟩, fun h => ⟨⟨⟨⟨h.2.2.1, h.2.2.2.1⟩, h.2.2.2.2.1⟩, by omega, by omega⟩, h.2.1⟩⟩
  rw [if_neg k3, if_neg k3]
  simp
theorem rright25_d (m : DMs) (hi : m.ids.length ≤ 1000000) (he : m.es.length ≤ 1000000) : DPure Tryz.prog 10 [encMs m] (.v (.bool (rightM m))) := by
  refine dpure_of_dwp mixed Tryz.func10 rfl (fun _ _ => by kernel_rfl) (rs := [.tmp 2]) rfl (by kernel_rfl) trivial (fun S hS => ?_)
  have fin : ∀ {v : Bool}, v = rightM m → (D.v (.bool v)).frz = D.v (.bool (rightM m)) := fun h => by rw [h]; rfl
  (simp (disch := first | decide | omega | (simp only [nx]; first | done | omega)) only [go_sem]; (repeat with_reducible refine aI ?_))
  (refine dloop_st (fun t => List.contains [2, 3, 5, 6, 7, 8, 9, 10, 11, 12, 13, 14, 15, 16, 17, 18, 19, 20, 21, 22, 23, 24] t) (by kernel_rfl) ?_ (m.ids.length) (fun i f => i ≤ m.ids.length ∧ f 3 = .v (.int .i64 ((i + 1 : Nat) : Int)) ∧ (∀ j (h : j + 1 < m.ids.length), j < i → valH m.ids[j] < valH m.ids[j + 1])) ?_ ?_; (exact (by (repeat' first | assumption | refine St.WF.leave ?_ _ | refine St.WF.add ?_ _ | refine St.WF.set ?_ ?_ _ | refine St.WF.grow ?_ _ _ _ | refine St.WF.keep ?_ ?_ | (first | omega | (simp only [RowOk.lo, nx]; first | done | omega))))); (exact ⟨(by omega), (by (first | (simp (disch := first | decide | omega | (simp only [nx]; first | done | omega)) only [go_sem]; first | done | rfl) | rfl)), (fun j h hj => by omega)⟩); intro i g tn hn hT hg hI; obtain ⟨le, q3, hs⟩ := hI; have q1 := hg 1 rfl; simp (disch := first | decide | omega | (simp only [nx]; first | done | omega)) only [go_sem] at q1; clear hg; have hn' := hn; try simp only [add_next, set_next, grow_next, leave_next, drop_next] at hn')
  by_cases hlt : i + 1 < m.ids.length
  · have b1 : decide (((i + 1 : Nat) : Int) < (m.ids.length : Int)) = true := decide_eq_true (by omega)
    have w1 : IntKind.i64.wrap (((i + 1 : Nat) : Int) + 1) = ((i + 1 + 1 : Nat) : Int) := IntWalk.i64_in _ ⟨by omega, by omega⟩
    have w0 : IntKind.i64.wrap (((i + 1 : Nat) : Int) - 1) = ((i : Nat) : Int) := (IntWalk.i64_in _ ⟨by omega, by omega⟩).trans (by omega)
    have hlt' : i < m.ids.length := by omega
    have lh := m.ids[i].2
    have lh2 := m.ids[i + 1].2
    (simp (disch := first | decide | omega | (simp only [nx]; first | done | omega)) only [go_sem, q1, q3, b1]; (repeat with_reducible refine aI ?_))
    refine ddraw_mk 12 (by kernel_rfl) ?_
    (simp (disch := first | decide | omega | (simp only [nx]; first | done | omega)) only [go_sem, q1, q3, w0, hlt, hlt', lh, lh2]; (repeat with_reducible refine aI ?_))
    refine dqgo_mk (rless_d m.ids[i] m.ids[i + 1]) ?_
    by_cases hv : valH m.ids[i] < valH m.ids[i + 1]
    · have b2 : decide (valH m.ids[i] < valH m.ids[i + 1]) = true := decide_eq_true hv
      (simp (disch := first | decide | omega | (simp only [nx]; first | done | omega)) only [go_sem, b2, q3, w1]; (repeat with_reducible refine aI ?_))
      (refine ⟨by omega, (by (repeat' first | assumption | exact St.Sub.refl _ | exact RowOk.sub (by assumption) (by assumption) | refine St.Sub.trans ?_ (RowOk.sub (by assumption) (by assumption)) | refine St.Sub.add ?_ ?_ _ | refine St.Sub.set ?_ ?_ ?_ _ | refine St.Sub.keep ?_ ?_ | refine St.WF.leave ?_ _ | refine St.WF.add ?_ _ | refine St.WF.set ?_ ?_ _ | refine St.WF.grow ?_ _ _ _ | refine St.WF.keep ?_ ?_ | (first | omega | (simp only [RowOk.lo, nx]; first | done | omega)))), ?_⟩; refine ⟨by omega, ?_, ?_⟩; all_goals (try (first | (simp (disch := first | decide | omega | (simp only [nx]; first | done | omega)) only [go_sem, w1]; first | done | rfl) | rfl)))
      intro j hj hji
      by_cases e : j = i
      · subst e; exact hv
      · exact hs j hj (by omega)
    · have b2 : decide (valH m.ids[i] < valH m.ids[i + 1]) = false := decide_eq_false hv
      (simp (disch := first | decide | omega | (simp only [nx]; first | done | omega)) only [go_sem, b2]; (repeat with_reducible refine aI ?_))
      refine ⟨?_, (by (repeat' first | assumption | exact St.Sub.refl _ | exact RowOk.sub (by assumption) (by assumption) | refine St.Sub.trans ?_ (RowOk.sub (by assumption) (by assumption)) | refine St.Sub.add ?_ ?_ _ | refine St.Sub.set ?_ ?_ ?_ _ | refine St.Sub.keep ?_ ?_ | refine St.WF.leave ?_ _ | refine St.WF.add ?_ _ | refine St.WF.set ?_ ?_ _ | refine St.WF.grow ?_ _ _ _ | refine St.WF.keep ?_ ?_ | (first | omega | (simp only [RowOk.lo, nx]; first | done | omega))))⟩
      exact fin (by rw [rightM_eq, rise_at hlt hv]; rfl)
  · have b1 : decide (((i + 1 : Nat) : Int) < (m.ids.length : Int)) = false := decide_eq_false (by omega)
    have hs0 : S.Sub (S.add (.box 28 (msCs m))) := (St.Sub.refl S).add hS _
    have hrise : riseH m.ids = true := riseH_true.2 fun j hj => hs j hj (by omega)
    (simp (disch := first | decide | omega | (simp only [nx]; first | done | omega)) only [go_sem, q1, q3, b1]; (repeat with_reducible refine aI ?_))
    (refine dloop_st (fun t => List.contains [2, 4, 25, 26, 27, 28, 29, 30, 31, 32, 33, 34, 35, 36, 37, 38, 39, 40, 41, 42, 43, 44, 45, 46, 47] t) (by kernel_rfl) ?_ (m.es.length) (fun iY f => iY ≤ m.es.length ∧ f 4 = .v (.int .i64 (iY : Nat)) ∧ (∀ j (h : j < m.es.length), j < iY → badE m.es[j] = false)) ?_ ?_; (exact (by (repeat' first | assumption | refine St.WF.leave ?_ _ | refine St.WF.add ?_ _ | refine St.WF.set ?_ ?_ _ | refine St.WF.grow ?_ _ _ _ | refine St.WF.keep ?_ ?_ | (first | omega | (simp only [RowOk.lo, nx]; first | done | omega))))); (exact ⟨(by omega), (by (first | (simp (disch := first | decide | omega | (simp only [nx]; first | done | omega)) only [go_sem, q1]; first | done | rfl) | rfl)), (fun j h hj => by omega)⟩); intro iY gY tnY hnY hTY hgY hIY; obtain ⟨leY, q4Y, ht⟩ := hIY; have q1Y := hgY 1 rfl; simp (disch := first | decide | omega | (simp only [nx]; first | done | omega)) only [go_sem, q1] at q1Y; clear hgY; have hnY' := hnY; try simp only [add_next, set_next, grow_next, leave_next, drop_next] at hnY')
    by_cases hl2 : iY < m.es.length
    · have c1 : decide ((iY : Int) < (m.es.length : Int)) = true := decide_eq_true (by omega)
      have w2 : IntKind.i64.wrap ((iY : Int) + 1) = ((iY + 1 : Nat) : Int) := IntWalk.i64_in _ ⟨by omega, by omega⟩
      have ce := cells_encB m.es[iY]
      by_cases s1 : m.es[iY].length < 1
      · have c2 : decide ((m.es[iY].length : Int) < 1) = true := decide_eq_true (by omega)
        (simp (disch := first | decide | omega | (simp only [nx]; first | done | omega)) only [go_sem, q1Y, q4Y, c1, hl2, ce, c2]; (repeat with_reducible refine aI ?_))
        refine ⟨?_, ⟨by have := hs0.next; show S.next ≤ tnY; omega, fun j o h => hs0.ob j o h⟩⟩
        exact fin (by
          have : m.es.any badE = true := List.any_eq_true.2 ⟨_, List.getElem_mem hl2, by rw [badE, decide_eq_true (by omega)]; rfl⟩
          rw [rightM_eq, this]; simp)
      have c2 : decide ((m.es[iY].length : Int) < 1) = false := decide_eq_false (by omega)
      by_cases s2 : 4096 < m.es[iY].length
      · have c3 : decide ((4096 : Int) < (m.es[iY].length : Int)) = true := decide_eq_true (by omega)
        (simp (disch := first | decide | omega | (simp only [nx]; first | done | omega)) only [go_sem, q1Y, q4Y, c1, hl2, ce, c2, c3]; (repeat with_reducible refine aI ?_))
        refine ⟨?_, ⟨by have := hs0.next; show S.next ≤ tnY; omega, fun j o h => hs0.ob j o h⟩⟩
        exact fin (by
          have : m.es.any badE = true := List.any_eq_true.2 ⟨_, List.getElem_mem hl2, by rw [badE, decide_eq_true s2]; simp⟩
          rw [rightM_eq, this]; simp)
      have c3 : decide ((4096 : Int) < (m.es[iY].length : Int)) = false := decide_eq_false (by omega)
      (simp (disch := first | decide | omega | (simp only [nx]; first | done | omega)) only [go_sem, q1Y, q4Y, c1, hl2, ce, c2, c3, w2]; (repeat with_reducible refine aI ?_))
      refine ⟨by omega, ⟨by omega, fun _ _ h => h⟩, ?_⟩
      refine ⟨by omega, by (first | (simp (disch := first | decide | omega | (simp only [nx]; first | done | omega)) only [go_sem, w2]; first | done | rfl) | rfl), ?_⟩
      intro j hj hji
      by_cases e : j = iY
      · subst e; rw [badE, decide_eq_false (by omega), decide_eq_false (by omega)]; rfl
      · exact ht j hj (by omega)
    · have c1 : decide ((iY : Int) < (m.es.length : Int)) = false := decide_eq_false (by omega)
      have hany : m.es.any badE = false := by
        rw [List.any_eq_false]
        intro b hb
        obtain ⟨j, hj, rfl⟩ := List.getElem_of_mem hb
        rw [ht j hj (by omega)]; simp
      have key : rightM m = tailM m := by rw [rightM_eq, hrise, hany]; simp
      have e0 : ((m.es.length : Int) == 0) = decide (m.es = []) := lenZ m.es
      have e1 : ((m.ids.length : Int) == 0) = decide (m.ids = []) := lenZ m.ids
      have g0 : decide ((0 : Int) < (m.ids.length : Int)) = decide (0 < m.ids.length) := decide_eq_decide.2 (by omega)
      have g1 : decide ((0 : Int) < (m.es.length : Int)) = decide (0 < m.es.length) := decide_eq_decide.2 (by omega)
      have g2 : decide ((m.ids.length : Int) ≤ 8) = decide (m.ids.length ≤ 8) := decide_eq_decide.2 (by omega)
      have g3 : decide ((m.es.length : Int) ≤ 8) = decide (m.es.length ≤ 8) := decide_eq_decide.2 (by omega)
      have g4 : decide ((m.ids.length : Int) ≤ 64) = decide (m.ids.length ≤ 64) := decide_eq_decide.2 (by omega)
      unfold tailM at key
      by_cases k1 : m.k = 1
      · have d1 : (m.k == 1) = true := by simp [k1]
        rw [if_pos k1] at key
        cases s1 : decide (m.es = []) with
        | false =>
          (simp (disch := first | decide | omega | (simp only [nx]; first | done | omega)) only [go_sem, q1Y, q4Y, c1, d1, e0, s1]; (repeat with_reducible refine aI ?_))
          refine ⟨?_, ⟨by have := hs0.next; show S.next ≤ tnY; omega, fun j o h => hs0.ob j o h⟩⟩
          exact fin (by rw [key, s1]; rfl)
        | true =>
          (simp (disch := first | decide | omega | (simp only [nx]; first | done | omega)) only [go_sem, q1Y, q4Y, c1, d1, e0, s1, g4]; (repeat with_reducible refine aI ?_))
          refine ⟨?_, ⟨by have := hs0.next; show S.next ≤ tnY; omega, fun j o h => hs0.ob j o h⟩⟩
          exact fin (by rw [key, s1]; rfl)
      have d1 : (m.k == 1) = false := by simpa using k1
      rw [if_neg k1] at key
      by_cases k2 : m.k = 2
      · have d2 : (m.k == 2) = true := by simp [k2]
        rw [if_pos k2] at key
        cases s1 : m.r with
        | true =>
          (simp (disch := first | decide | omega | (simp only [nx]; first | done | omega)) only [go_sem, q1Y, q4Y, c1, d1, d2, s1]; (repeat with_reducible refine aI ?_))
          refine ⟨?_, ⟨by have := hs0.next; show S.next ≤ tnY; omega, fun j o h => hs0.ob j o h⟩⟩
          exact fin (by rw [key, s1]; rfl)
        | false =>
        cases s2 : decide (m.f = zF) with
        | false =>
          (simp (disch := first | decide | omega | (simp only [nx]; first | done | omega)) only [go_sem, q1Y, q4Y, c1, d1, d2, s1, placeF, agg_zF, s2]; (repeat with_reducible refine aI ?_))
          refine ⟨?_, ⟨by have := hs0.next; show S.next ≤ tnY; omega, fun j o h => hs0.ob j o h⟩⟩
          exact fin (by rw [key, s1, s2]; rfl)
        | true =>
        cases s3 : decide (m.es = []) with
        | false =>
          (simp (disch := first | decide | omega | (simp only [nx]; first | done | omega)) only [go_sem, q1Y, q4Y, c1, d1, d2, s1, placeF, agg_zF, s2, e0, s3]; (repeat with_reducible refine aI ?_))
          refine ⟨?_, ⟨by have := hs0.next; show S.next ≤ tnY; omega, fun j o h => hs0.ob j o h⟩⟩
          exact fin (by rw [key, s1, s2, s3]; rfl)
        | true =>
        cases s4 : decide (0 < m.ids.length) with
        | false =>
          (simp (disch := first | decide | omega | (simp only [nx]; first | done | omega)) only [go_sem, q1Y, q4Y, c1, d1, d2, s1, placeF, agg_zF, s2, e0, s3, g0, s4]; (repeat with_reducible refine aI ?_))
          refine ⟨?_, ⟨by have := hs0.next; show S.next ≤ tnY; omega, fun j o h => hs0.ob j o h⟩⟩
          exact fin (by rw [key, s1, s2, s3, s4]; rfl)
        | true =>
          (simp (disch := first | decide | omega | (simp only [nx]; first | done | omega)) only [go_sem, q1Y, q4Y, c1, d1, d2, s1, placeF, agg_zF, s2, e0, s3, g0, s4, g2]; (repeat with_reducible refine aI ?_))
          refine ⟨?_, ⟨by have := hs0.next; show S.next ≤ tnY; omega, fun j o h => hs0.ob j o h⟩⟩
          exact fin (by rw [key, s1, s2, s3, s4]; rfl)
      have d2 : (m.k == 2) = false := by simpa using k2
      rw [if_neg k2] at key
      by_cases k3 : m.k = 3
      · have d3 : (m.k == 3) = true := by simp [k3]
        rw [if_pos k3] at key
        cases s1 : m.r with
        | true =>
          (simp (disch := first | decide | omega | (simp only [nx]; first | done | omega)) only [go_sem, q1Y, q4Y, c1, d1, d2, d3, s1]; (repeat with_reducible refine aI ?_))
          refine ⟨?_, ⟨by have := hs0.next; show S.next ≤ tnY; omega, fun j o h => hs0.ob j o h⟩⟩
          exact fin (by rw [key, s1]; rfl)
        | false =>
        cases s2 : decide (m.f = zF) with
        | false =>
          (simp (disch := first | decide | omega | (simp only [nx]; first | done | omega)) only [go_sem, q1Y, q4Y, c1, d1, d2, d3, s1, placeF, agg_zF, s2]; (repeat with_reducible refine aI ?_))
          refine ⟨?_, ⟨by have := hs0.next; show S.next ≤ tnY; omega, fun j o h => hs0.ob j o h⟩⟩
          exact fin (by rw [key, s1, s2]; rfl)
        | true =>
        cases s3 : decide (m.ids = []) with
        | false =>
          (simp (disch := first | decide | omega | (simp only [nx]; first | done | omega)) only [go_sem, q1Y, q4Y, c1, d1, d2, d3, s1, placeF, agg_zF, s2, e1, s3]; (repeat with_reducible refine aI ?_))
          refine ⟨?_, ⟨by have := hs0.next; show S.next ≤ tnY; omega, fun j o h => hs0.ob j o h⟩⟩
          exact fin (by rw [key, s1, s2, s3]; rfl)
        | true =>
        cases s4 : decide (0 < m.es.length) with
        | false =>
          (simp (disch := first | decide | omega | (simp only [nx]; first | done | omega)) only [go_sem, q1Y, q4Y, c1, d1, d2, d3, s1, placeF, agg_zF, s2, e1, s3, g1, s4]; (repeat with_reducible refine aI ?_))
          refine ⟨?_, ⟨by have := hs0.next; show S.next ≤ tnY; omega, fun j o h => hs0.ob j o h⟩⟩
          exact fin (by rw [key, s1, s2, s3, s4]; rfl)
        | true =>
          (simp (disch := first | decide | omega | (simp only [nx]; first | done | omega)) only [go_sem, q1Y, q4Y, c1, d1, d2, d3, s1, placeF, agg_zF, s2, e1, s3, g1, s4, g3]; (repeat with_reducible refine aI ?_))
          refine ⟨?_, ⟨by have := hs0.next; show S.next ≤ tnY; omega, fun j o h => hs0.ob j o h⟩⟩
          exact fin (by rw [key, s1, s2, s3, s4]; rfl)
      have d3 : (m.k == 3) = false := by simpa using k3
      rw [if_neg k3] at key
      (simp (disch := first | decide | omega | (simp only [nx]; first | done | omega)) only [go_sem, q1Y, q4Y, c1, d1, d2, d3]; (repeat with_reducible refine aI ?_))
      refine ⟨?_, ⟨by have := hs0.next; show S.next ≤ tnY; omega, fun j o h => hs0.ob j o h⟩⟩
      exact fin key.symm
end
end Go.Proofs.YtonncfminojejaaGreatDoor

namespace Go.Proofs.YtonncfminojejaaGreatDoor
open Go.RowKit
theorem DCalls.frz {P : Program} {g : FuncId} {args : List D} {S : St} {K K' : D → St → Prop} (h : DCalls P g args S K) (hk : ∀ d T, K d T → K' d.frz T) : DCalls P g args S K' := fun base η w vs hM hr => by
  rcases h base η w vs hM hr with ⟨h1, h2⟩ | ⟨d, S', η', v, w', h1, h2, h3, h4⟩
  · exact .inl ⟨h1, h2.mono fun _ _ ⟨d, S', η', v, h1, h2, h3, h4⟩ => ⟨d.frz, S', η', v, hk _ _ h1, h2, h3.frz, h4⟩⟩
  · exact .inr ⟨d.frz, S', η', v, w', h1, hk _ _ h2, h3.frz, h4⟩
section
set_option maxRecDepth 200000
set_option maxHeartbeats 8000000
end
end Go.Proofs.YtonncfminojejaaGreatDoor

namespace Go.Proofs.YtonncfminojejaaGreatDoor
open Go.RowKit
theorem inl_cell_tmp_normal {P : Program} {f : Fm} {K : D → St → Prop} (x : Tmp) (t : TypeId) (u : Tmp) (S' : St) : DQ.inl P [.cell x t, .tmp u] K .normal f S' = dcellR P S' t (f x) (fun r => K (.tup [r, f u]) S') := by
  rw [← onVal_cell]
  simp [DQ.inl, dresL, dres, onVal, one]
theorem inl_cell_tmp_ret {P : Program} {f : Fm} {K : D → St → Prop} (x : Tmp) (t : TypeId) (u : Tmp) (S' : St) : DQ.inl P [.cell x t, .tmp u] K .ret f S' = dcellR P S' t (f x) (fun r => K (.tup [r, f u]) S') := by
  rw [← onVal_cell]
  simp [DQ.inl, dresL, dres, onVal, one]
attribute [go_sem] inl_cell_tmp_normal inl_cell_tmp_ret
section
variable {Q Q' : Nat → Prop} {T X Y : St} {k : Nat} {o : Ob}
end
end Go.Proofs.YtonncfminojejaaGreatDoor

namespace Go.Proofs.YtonncfminojejaaGreatDoor
open Go.RowKit
theorem grow_hit {S : St} {own : Own} {e : TypeId} {n : Nat} : (S.grow own e n).ob S.next = some (.row e n) := by
  cases own <;> simp [St.grow, St.leave, St.add, St.drop]
theorem grow_skip {S : St} {own : Own} {e : TypeId} {n j : Nat} (h1 : j ≠ S.next) (h2 : ∀ g, own = .row g → j ≠ g) : (S.grow own e n).ob j = S.ob j := by
  cases own with
  | row g => simp [St.grow, St.leave, St.add, St.drop, h1, h2 g rfl]
  | no => simp [St.grow, St.leave, St.add, h1]
  | full => simp [St.grow, St.leave, St.add, h1]
end Go.Proofs.YtonncfminojejaaGreatDoor

namespace Go.Proofs.YtonncfminojejaaGreatDoor
open Go.RowKit
inductive GV : DVal → DSch → Prop
  | mk {v : DVal} {s : DSch} (h1 : hereV v = true) (h2 : headF v s = true) (h3 : ∀ i, i < v.parts.length → atF s i < s.parts.length) (h4 : ∀ i, (hi : i < v.parts.length) → GV v.parts[i] (s.parts.getD (atF s i) default)) : GV v s
end Go.Proofs.YtonncfminojejaaGreatDoor

namespace Go.Proofs.YtonncfminojejaaGreatDoor
open Go.RowKit
theorem cv_u8i64 (n : Int) : pureRun Tryz.prog (convert 5 3 (.int .u8 n)) = some (.int .i64 (IntKind.i64.wrap n)) := by kernel_rfl
end Go.Proofs.YtonncfminojejaaGreatDoor

namespace Go.Proofs.YtonncfminojejaaGreatDoor
open Go.RowKit
theorem DCalls.fin {P : Program} {g : FuncId} {args : List D} {S : St} {K : D → St → Prop} (h : DCalls P g args S fun d T => DFinT P S T d K) : DCalls P g args S K := fun base η w vs hM hr => by
  rcases h base η w vs hM hr with ⟨h1, h2⟩ | ⟨d, S', η', v, w', h1, ⟨S1, d1, t1, d', S'', q1, q2, q3, q4, q5, q6⟩, h3, h4⟩
  · refine .inl ⟨h1, h2.mono fun e w' ⟨d, S', η', v, ⟨S1, d1, t1, d', S'', q1, q2, q3, q4, q5, q6⟩, he, h3, h4⟩ => ?_⟩
    obtain ⟨η3, t2, t3⟩ := t1 _ _ _ _ h4.mem h3
    obtain ⟨g1, g2⟩ := goes_fin hM (h4.trans t2) q3 q4 q5
    exact ⟨d', S'', _, v, q6, he, g2 d' v q2 (q1 _ _ _ _ _ t3), g1⟩
  · obtain ⟨η3, t2, t3⟩ := t1 _ _ _ _ h4.mem h3
    obtain ⟨g1, g2⟩ := goes_fin hM (h4.trans t2) q3 q4 q5
    exact .inr ⟨d', S'', _, v, w', h1, q6, g2 d' v q2 (q1 _ _ _ _ _ t3), g1⟩
theorem frz_bDs (l : List UInt8) : frzL (l.map bD) = l.map bD := by simp [frzL_map, bD, D.frz, Function.comp_def]
theorem closed_bDs (l : List UInt8) : (D.sl .no (l.map bD)).closed := by
  simp only [D.closed, D.all, Own.all, true_and]
  refine allL_iff.2 fun d hd => ?_
  obtain ⟨b, _, rfl⟩ := List.mem_map.1 hd
  simp [bD, D.all]
theorem dpure_newB {g : FuncId} {args : List D} {bs : List UInt8} (h : ∀ S : St, DCalls Tryz.prog g args S fun d T => NewB S T d bs) : DPure Tryz.prog g args (.sl .no (bs.map bD)) := fun S base η w vs hM hr =>
  DCalls.fin ((h S).mono fun d T ⟨own, he, ho, h1, h2⟩ => DFin.t ⟨.sl .no (bs.map bD), S, by
      have := DLe.frz (D.sl own (bs.map bD))
      simp only [D.frz, frz_bDs] at this
      rw [he]; exact this, D.all_mono (fun _ h => h.elim) (closed_bDs bs), h1, Nat.le_refl _, fun k o hk => ⟨h2 k o hk, St.WF.lt (S := S) hM.fresh hk, fun _ _ _ => .inl hk⟩, rfl, rfl⟩) base η w vs hM hr
theorem refByt_d (own : Own) (xs : List UInt8) (hx : xs.length ≤ 1000000) : DPure Tryz.prog 41 [.sl own (xs.map bD)] (.sl .no ((numB xs.length ++ xs).map bD)) := dpure_newB fun S => refByt_w own xs hx
theorem NewB.weak {S S1 T : St} {d : D} {bs : List UInt8} (h : NewB S1 T d bs) (hn : S.next ≤ S1.next) (hk : ∀ j o, S.ob j = some o → S1.ob j = some o) : NewB S T d bs := by
  obtain ⟨own, e, h1, h2, h3⟩ := h
  exact ⟨own, e, h1.imp id fun ⟨g, g1, g2, g3⟩ => ⟨g, g1, by omega, g3⟩, by omega, fun j o hj => h3 j o (hk j o hj)⟩
section
set_option maxRecDepth 200000
set_option maxHeartbeats 16000000
end
end Go.Proofs.YtonncfminojejaaGreatDoor

namespace Go.Proofs.YtonncfminojejaaGreatDoor
open Go.RowKit
theorem dapp_bytesWn {S : St} {ty : TypeId} {own : Own} {bs xs : List UInt8} {j off n c : Nat} {K : D → St → Prop} (hn : xs.length = n) (hs : SrcOk S 1 (.win j off n c) n (xs.map bD)) (h : own = .full ∨ ∃ g, own = .row g ∧ S.ob g = some (.row 5 bs.length)) (hl : bs.length + xs.length ≤ 1099511627776)
    (k : K (.sl (.row S.next) ((bs ++ xs).map bD)) (S.grow own 5 (bs.length + xs.length))) : dapp Tryz.prog S 22 22 ty (.sl own (bs.map bD)) (.win j off n c) K := by
  subst hn
  refine dapp_rowW (es2 := xs.map bD) elBy (by rw [elBy]; rfl) zeBy (by rw [szBy, flat_bD2, List.length_map]; exact hs) (by rw [szBy]; exact wBy bs) (by rw [szBy]; exact wBy xs) ?_ (by rw [List.length_map, List.length_map]; omega) (by rw [List.length_map, List.length_map, byBy]; omega) ?_
  · rw [List.length_map]; exact h
  · rw [List.map_append] at k
    rw [List.length_map, List.length_map]
    exact k
section
set_option maxRecDepth 200000
set_option maxHeartbeats 8000000
theorem refBool_d (b : Bool) : DPure Tryz.prog 40 [.v (.bool b)] (.sl .no ([if b then (1 : UInt8) else 0].map bD)) := by
  refine dpure_of_dwp mixed Tryz.func40 rfl (fun _ _ => by kernel_rfl) (rs := [.tmp 2]) rfl (by kernel_rfl) (closed_bDs _) (fun S hS => ?_)
  cases b
  · (simp (disch := first | decide | omega | (simp only [nx]; first | done | omega)) only [go_sem]; (repeat with_reducible refine aI ?_))
    refine ⟨?_, (by (repeat' first | assumption | exact St.Sub.refl _ | exact RowOk.sub (by assumption) (by assumption) | refine St.Sub.trans ?_ (RowOk.sub (by assumption) (by assumption)) | refine St.Sub.add ?_ ?_ _ | refine St.Sub.set ?_ ?_ ?_ _ | refine St.Sub.keep ?_ ?_ | refine St.WF.leave ?_ _ | refine St.WF.add ?_ _ | refine St.WF.set ?_ ?_ _ | refine St.WF.grow ?_ _ _ _ | refine St.WF.keep ?_ ?_ | (first | omega | (simp only [RowOk.lo, nx]; first | done | omega))))⟩
    rfl
  · (simp (disch := first | decide | omega | (simp only [nx]; first | done | omega)) only [go_sem]; (repeat with_reducible refine aI ?_))
    refine ⟨?_, (by (repeat' first | assumption | exact St.Sub.refl _ | exact RowOk.sub (by assumption) (by assumption) | refine St.Sub.trans ?_ (RowOk.sub (by assumption) (by assumption)) | refine St.Sub.add ?_ ?_ _ | refine St.Sub.set ?_ ?_ ?_ _ | refine St.Sub.keep ?_ ?_ | refine St.WF.leave ?_ _ | refine St.WF.add ?_ _ | refine St.WF.set ?_ ?_ _ | refine St.WF.grow ?_ _ _ _ | refine St.WF.keep ?_ ?_ | (first | omega | (simp only [RowOk.lo, nx]; first | done | omega))))⟩
    rfl
theorem rbytes25_d (m : DMs) (hrt : rightM m = true) : DPure Tryz.prog 12 [encMs m] (.sl .no ((bytesM m).map bD)) := by
  refine dpure_newB fun S => ?_
  obtain ⟨n, hn, hn3⟩ : ∃ n : Nat, m.k = (n : Int) ∧ n < 128 := by
    rcases right_kind hrt with h | h | h
    · exact ⟨1, h, by omega⟩
    · exact ⟨2, h, by omega⟩
    · exact ⟨3, h, by omega⟩
  obtain ⟨hids, hes, hbs⟩ := right_es hrt
  have wk : IntKind.u8.wrap m.k = ((b8 n).toNat : Int) := by
    rw [hn, wrap_u8]
    unfold b8
    rw [UInt8.toNat_ofNat']
    omega
  refine dcalls_inline mixed Tryz.func12 rfl (fun _ _ => by kernel_rfl) (rs := [.tmp 2]) rfl (by kernel_rfl) (fun hS => ?_)
  (simp (disch := first | decide | omega | (simp only [nx]; first | done | omega)) only [go_sem, cv_i64u8, wk]; (repeat with_reducible refine aI ?_))
  have hu8 : [D.v (.int .u8 ((b8 n).toNat : Int))] = [b8 n].map bD := rfl
  obtain ⟨S1, hS1⟩ : ∃ S1 : St, S1 = S.add (.box 28 (msCs m)) := ⟨_, rfl⟩
  have hW1 : S1.WF := by rw [hS1]; exact hS.add _
  have hm1 : S1.ob S.next = some (.box 28 (msCs m)) := by rw [hS1]; exact add_eq
  have hn1 : S1.next = S.next + 1 := by rw [hS1]; rfl
  have hk1 : ∀ j o, S.ob j = some o → S1.ob j = some o := fun j o e => by have := hS.lt e; rw [hS1, add_ne this, e]
  rw [← hS1]
  clear hS1
  refine dIf_cut (fun f' S' => f' 1 = .loc S.next 0 ∧ S'.WF ∧ NewB S1 S' (f' 3) (headM m)) ?_ ?_
  · refine dIf_both (fun hb => ?_) (fun hb => ?_)
    · have hk1 : m.k = 1 := beq_iff_eq.1 hb
      have e : headM m = ([b8 n] ++ [if m.r = true then (1 : UInt8) else 0]) ++ m.f.1 := by
        rw [headM, if_pos hk1, hn]; rfl
      refine ddraw_any (fun S' => S'.ob S.next = some (.box 28 (msCs m))) 9 (by (first | (simp (disch := first | decide | omega | (simp only [nx]; first | done | omega)) only [go_sem, hm1]; first | done | rfl) | rfl)) (by kernel_rfl) ?_
      (refine s_take 0 rfl (by kernel_rfl) (by kernel_rfl) (v := ?v1) (fun S' hz => dquietR_of ?h1) <| s_take 1 rfl (by kernel_rfl) (by kernel_rfl) (v := ?v2) (fun S' hz => dquietR_of ?h2) <| s_take 2 rfl (by kernel_rfl) (by kernel_rfl) (v := ?v3) (fun S' hz => dquietR_of ?h3) <| s_take 5 rfl (by kernel_rfl) (by kernel_rfl) (v := ?v4) (fun S' hz => dquietR_of ?h4) <| s_take 6 rfl (by kernel_rfl) (by kernel_rfl) (v := ?v5) (fun S' hz => dquietR_of ?h5) <| ?k5; (case h1 | h2 | h3 | h4 | h5 => ((simp (disch := first | decide | omega | (simp only [nx]; first | done | omega)) only [go_sem, hm1, hz]; (repeat with_reducible refine aI ?_)); first | done | exact rfl | omega)))
      (refine s_split [3] (by kernel_rfl) (by simp) ?_; intro j_ hj_; obtain rfl : j_ = 3 := (by simpa using hj_); clear hj_; refine s_op rfl ?_; (simp (disch := first | decide | omega | (simp only [nx]; first | done | omega)) only [go_sem, hm1]; (repeat with_reducible refine aI ?_)))
      refine DCalls.of_pure (refBool_d m.r) ?_
      refine ⟨hm1, ?_⟩
      (refine s_split [4] (by kernel_rfl) (by simp) ?_; intro j_ hj_; obtain rfl : j_ = 4 := (by simpa using hj_); clear hj_; refine s_op rfl ?_; (simp (disch := first | decide | omega | (simp only [nx]; first | done | omega)) only [go_sem, hm1]; (repeat with_reducible refine aI ?_)))
      refine dapp_bytes2 (bs := [b8 n]) (xs := [if m.r = true then (1 : UInt8) else 0]) (.inl rfl) (by simp) ?_
      have hN2 := NewB.grow (S := S1) (T := S1) (own := .full) (own2 := .full) (bs := [b8 n]) (xs := [if m.r = true then (1 : UInt8) else 0]) hW1 (.inl rfl) (Nat.le_refl _) (fun _ _ h => h)
      have hW2 := hW1.grow .full 5 ([b8 n].length + [if m.r = true then (1 : UInt8) else 0].length)
      revert hN2 hW2
      generalize St.grow S1 .full 5 ([b8 n].length + [if m.r = true then (1 : UInt8) else 0].length) = T2
      rintro ⟨own2, e2, ho2, hn2, hk2⟩ hW2
      rw [e2]
      have hm2 := hk2 _ _ hm1
      refine ⟨hm2, ?_⟩
      (refine s_split [7] (by kernel_rfl) (by simp) ?_; intro j_ hj_; obtain rfl : j_ = 7 := (by simpa using hj_); clear hj_; refine s_op rfl ?_; (simp (disch := first | decide | omega | (simp only [nx]; first | done | omega)) only [go_sem, hm2]; (repeat with_reducible refine aI ?_)))
      refine dapp_bytesWn (bs := [b8 n] ++ [if m.r = true then (1 : UInt8) else 0]) (xs := m.f.1) m.f.2 (srcOk_filter hm2) (ho2.imp id fun ⟨g, h1, _, h2⟩ => ⟨g, h1, h2⟩) (by simp [m.f.2]) ?_
      have hN3 := NewB.grow (own2 := .full) (xs := m.f.1) hW1 ho2 hn2 hk2
      have hW3 := hW2.grow own2 5 (([b8 n] ++ [if m.r = true then (1 : UInt8) else 0]).length + m.f.1.length)
      rw [← e] at hN3 ⊢
      revert hN3 hW3
      generalize St.grow T2 own2 5 (([b8 n] ++ [if m.r = true then (1 : UInt8) else 0]).length + m.f.1.length) = T3
      rintro ⟨own3, e3, ho3, hn3, hk3⟩ hW3
      rw [e3]
      refine ⟨hk3 _ _ hm1, ?_⟩
      (refine s_take 8 rfl (by kernel_rfl) (by kernel_rfl) (v := ?v6) (fun S' hz => dquietR_of ?h6) ?k6; (case h6 => ((simp (disch := first | decide | omega | (simp only [nx]; first | done | omega)) only [go_sem, hz]; (repeat with_reducible refine aI ?_)); first | done | exact rfl | omega)))
      (refine s_done (by kernel_rfl) ?_; (simp (disch := first | decide | omega | (simp only [nx]; first | done | omega)) only [go_sem]; (repeat with_reducible refine aI ?_)))
      exact ⟨own3, rfl, ho3, hn3, hk3⟩
    · have hk1 : ¬ m.k = 1 := beq_eq_false_iff_ne.1 hb
      have e : headM m = [b8 n] := by rw [headM, if_neg hk1, hn]; simp
      (simp (disch := first | decide | omega | (simp only [nx]; first | done | omega)) only [go_sem]; (repeat with_reducible refine aI ?_))
      rw [e]
      exact ⟨.full, rfl, .inl rfl, Nat.le_refl _, fun _ _ h => h⟩
  · rintro f' T2 ⟨f1, hT2, own2, f3, ho2, hn2, hk2⟩
    have z2 := hk2 _ _ hm1
    have wa : IntKind.i64.wrap ((m.ids.length : Int) + (m.es.length : Int)) = ((m.ids.length + m.es.length : Nat) : Int) := (IntWalk.i64_in _ ⟨by omega, by omega⟩).trans (by omega)
    have wu : IntKind.u8.wrap ((m.ids.length + m.es.length : Nat) : Int) = ((b8 (m.ids.length + m.es.length)).toNat : Int) := by
      rw [wrap_u8]
      unfold b8
      rw [UInt8.toNat_ofNat']
      omega
    have hnb : numB (m.ids.length + m.es.length) = [b8 (m.ids.length + m.es.length)] := numB_lt _ (by omega)
    have hhl : (headM m).length ≤ 100 := by
      rw [headM]
      split
      · simp [m.f.2]
      · simp
    (simp (disch := first | decide | omega | (simp only [nx]; first | done | omega)) only [go_sem, f1, f3, z2, cv_i64u8, wa, wu]; (repeat with_reducible refine aI ?_))
    refine dapp_bytes2 (bs := headM m) (xs := [b8 (m.ids.length + m.es.length)]) (ho2.imp id fun ⟨g, h1, _, h2⟩ => ⟨g, h1, h2⟩) (by simp; omega) ?_
    rw [← hnb]
    have hN3 := NewB.grow (own2 := .full) (xs := numB (m.ids.length + m.es.length)) hW1 ho2 hn2 hk2
    have hW3 := hT2.grow own2 5 ((headM m).length + (numB (m.ids.length + m.es.length)).length)
    revert hN3 hW3
    generalize St.grow T2 own2 5 ((headM m).length + (numB (m.ids.length + m.es.length)).length) = T3
    rintro hN3 hW3
    (simp (disch := first | decide | omega | (simp only [nx]; first | done | omega)) only [go_sem, f1]; (repeat with_reducible refine aI ?_))
    refine dloop_up (fun t => List.contains [3, 4, 5, 33, 34, 35, 36, 37, 38, 39, 40, 41, 42, 43, 44, 45, 46, 47] t) (by kernel_rfl) (by exact hW3) m.ids.length (fun j g T => j ≤ m.ids.length ∧ g 4 = .v (.int .i64 ((j : Nat) : Int)) ∧ NewB S1 T (g 3) (headM m ++ numB (m.ids.length + m.es.length) ++ idsB2 (m.ids.take j)))
      ⟨by omega, by (first | (simp (disch := first | decide | omega | (simp only [nx]; first | done | omega)) only [go_sem]; first | done | rfl) | rfl), by rw [List.take_zero]; show NewB S1 T3 _ (_ ++ []); rw [List.append_nil]; exact hN3⟩ ?_
    clear hN3 hW3
    rintro j g T hT hg ⟨le, q4, own3, q3, ho3, hn3, hk3⟩
    (have q1 := hg 1 rfl; have q2 := hg 2 rfl; simp (disch := first | decide | omega | (simp only [nx]; first | done | omega)) only [go_sem, f1] at q1 q2; clear hg)
    have t1 := hk3 _ _ hm1
    have hil := idsB2_len (m.ids.take j)
    rw [List.length_take] at hil
    have hnl : (numB (m.ids.length + m.es.length)).length = 1 := by rw [hnb]; rfl
    by_cases hj : j < m.ids.length
    · have b1 : decide ((j : Int) < (m.ids.length : Int)) = true := decide_eq_true (by omega)
      have w1 : IntKind.i64.wrap ((j : Int) + 1) = ((j + 1 : Nat) : Int) := IntWalk.i64_in _ ⟨by omega, by omega⟩
      have lh := m.ids[j].2
      (simp (disch := first | decide | omega | (simp only [nx]; first | done | omega)) only [go_sem, q1, q4, q3, t1, b1, hj, lh]; (repeat with_reducible refine aI ?_))
      rw [add_setq]
      have hob : (T.add (.box 45 (m.ids[j].1.map bD))).ob T.next = some (.box 45 (m.ids[j].1.map bD)) := by (first | (simp (disch := first | decide | omega | (simp only [nx]; first | done | omega)) only [go_sem]; first | done | rfl) | rfl)
      have kk : ∀ j' o, T.ob j' = some o → (T.add (.box 45 (m.ids[j].1.map bD))).ob j' = some o := add_keep hT _
      have ho4 : own3 = .full ∨ ∃ g, own3 = .row g ∧ S1.next ≤ g ∧ (T.add (.box 45 (m.ids[j].1.map bD))).ob g = some (.row 5 (headM m ++ numB (m.ids.length + m.es.length) ++ idsB2 (m.ids.take j)).length) := ho3.imp id fun ⟨g, h1, h2, h3⟩ => ⟨g, h1, h2, kk _ _ h3⟩
      refine dapp_bytesWn (bs := headM m ++ numB (m.ids.length + m.es.length) ++ idsB2 (m.ids.take j)) (xs := m.ids[j].1) lh (srcOk_hash hob) (ho4.imp id fun ⟨g, h1, _, h2⟩ => ⟨g, h1, h2⟩) (by simp only [List.length_append, lh]; omega) ?_
      have hN5 := NewB.grow (own2 := .full) (T := T.add (.box 45 (m.ids[j].1.map bD))) (xs := m.ids[j].1) hW1 ho4 (Nat.le_trans hn3 (Nat.le_succ _)) (fun j' o e => kk _ _ (hk3 _ _ e))
      rw [List.append_assoc (headM m ++ numB (m.ids.length + m.es.length)), ← idsB2_take hj] at hN5 ⊢
      have hnx : T.next ≤ ((T.add (.box 45 (m.ids[j].1.map bD))).grow own3 5 ((headM m ++ numB (m.ids.length + m.es.length) ++ idsB2 (m.ids.take j)).length + m.ids[j].1.length)).next := by rw [grow_next]; exact Nat.le_trans (Nat.le_succ _) (Nat.le_succ _)
      revert hN5 hnx
      generalize ((T.add (.box 45 (m.ids[j].1.map bD))).grow own3 5 ((headM m ++ numB (m.ids.length + m.es.length) ++ idsB2 (m.ids.take j)).length + m.ids[j].1.length)) = T5
      intro hN5 hnx
      (simp (disch := first | decide | omega | (simp only [nx]; first | done | omega)) only [go_sem, q4, w1]; (repeat with_reducible refine aI ?_))
      refine ⟨by omega, T5.ob, fun _ _ h => h, by omega, by (first | (simp (disch := first | decide | omega | (simp only [nx]; first | done | omega)) only [go_sem, w1]; first | done | rfl) | rfl), hN5⟩
    · have b1 : decide ((j : Int) < (m.ids.length : Int)) = false := decide_eq_false (by omega)
      have et : m.ids.take j = m.ids := List.take_of_length_le (by omega)
      rw [et] at q3 ho3
      (simp (disch := first | decide | omega | (simp only [nx]; first | done | omega)) only [go_sem, q1, q4, q3, t1, b1]; (repeat with_reducible refine aI ?_))
      refine dloop_up (fun t => List.contains [3, 6, 48, 49, 50, 51, 52, 53, 54, 55, 56, 57, 58, 59, 60, 61, 62] t) (by kernel_rfl) (by exact hT) m.es.length (fun j g T => j ≤ m.es.length ∧ g 6 = .v (.int .i64 ((j : Nat) : Int)) ∧ NewB S1 T (g 3) (headM m ++ numB (m.ids.length + m.es.length) ++ idsB2 m.ids ++ esB (m.es.take j)))
        ⟨by omega, by (first | (simp (disch := first | decide | omega | (simp only [nx]; first | done | omega)) only [go_sem]; first | done | rfl) | rfl), by rw [List.take_zero]; show NewB S1 T _ (_ ++ []); rw [List.append_nil]; exact ⟨own3, by (first | (simp (disch := first | decide | omega | (simp only [nx]; first | done | omega)) only [go_sem, q3]; first | done | rfl) | rfl), ho3, hn3, hk3⟩⟩ ?_
      rintro i p T4 hT4 hgz ⟨le2, q6, own4, q3y, ho4, hn4, hk4⟩
      (have q1z := hgz 1 rfl; have q2z := hgz 2 rfl; simp (disch := first | decide | omega | (simp only [nx]; first | done | omega)) only [go_sem, q1] at q1z q2z; clear hgz)
      have t4 := hk4 _ _ hm1
      have hil2 := idsB2_len m.ids
      have hel := esB_len (m.es.take i) (fun b hb => (hbs b (List.mem_of_mem_take hb)).2)
      rw [List.length_take] at hel
      by_cases hi : i < m.es.length
      · have b2 : decide ((i : Int) < (m.es.length : Int)) = true := decide_eq_true (by omega)
        have w2 : IntKind.i64.wrap ((i : Int) + 1) = ((i + 1 : Nat) : Int) := IntWalk.i64_in _ ⟨by omega, by omega⟩
        have ce := cells_encB m.es[i]
        have hbi := (hbs _ (List.getElem_mem hi)).2
        have hnl2 := numB_length_le m.es[i].length (by omega)
        (simp (disch := first | decide | omega | (simp only [nx]; first | done | omega)) only [go_sem, q1z, q6, q3y, t4, b2, hi, ce]; (repeat with_reducible refine aI ?_))
        refine DCalls.of_pure (refByt_d .no m.es[i] (by omega)) ?_
        (simp (disch := first | decide | omega | (simp only [nx]; first | done | omega)) only [go_sem, q3y]; (repeat with_reducible refine aI ?_))
        refine dapp_bytes2 (bs := headM m ++ numB (m.ids.length + m.es.length) ++ idsB2 m.ids ++ esB (m.es.take i)) (xs := numB m.es[i].length ++ m.es[i]) (ho4.imp id fun ⟨g, h1, _, h2⟩ => ⟨g, h1, h2⟩) (by simp only [List.length_append]; omega) ?_
        have hN5 := NewB.grow (own2 := .full) (xs := numB m.es[i].length ++ m.es[i]) hW1 ho4 hn4 hk4
        rw [List.append_assoc (headM m ++ numB (m.ids.length + m.es.length) ++ idsB2 m.ids), ← esB_take hi] at hN5 ⊢
        have hnx : T4.next ≤ (T4.grow own4 5 ((headM m ++ numB (m.ids.length + m.es.length) ++ idsB2 m.ids ++ esB (m.es.take i)).length + (numB m.es[i].length ++ m.es[i]).length)).next := by rw [grow_next]; exact Nat.le_succ _
        revert hN5 hnx
        generalize (T4.grow own4 5 ((headM m ++ numB (m.ids.length + m.es.length) ++ idsB2 m.ids ++ esB (m.es.take i)).length + (numB m.es[i].length ++ m.es[i]).length)) = T5
        intro hN5 hnx
        (simp (disch := first | decide | omega | (simp only [nx]; first | done | omega)) only [go_sem, q6, w2]; (repeat with_reducible refine aI ?_))
        refine ⟨by omega, T5.ob, fun _ _ h => h, by omega, by (first | (simp (disch := first | decide | omega | (simp only [nx]; first | done | omega)) only [go_sem, w2]; first | done | rfl) | rfl), hN5⟩
      · have b2 : decide ((i : Int) < (m.es.length : Int)) = false := decide_eq_false (by omega)
        have et2 : m.es.take i = m.es := List.take_of_length_le (by omega)
        rw [et2] at q3y ho4
        (simp (disch := first | decide | omega | (simp only [nx]; first | done | omega)) only [go_sem, q1z, q6, q3y, t4, b2]; (repeat with_reducible refine aI ?_))
        exact NewB.weak ⟨own4, rfl, ho4, hn4, hk4⟩ (by omega) hk1
end
end Go.Proofs.YtonncfminojejaaGreatDoor

namespace Go.Proofs.YtonncfminojejaaGreatDoor
open Go.RowKit
section
variable {P : Program} {f : Fm} {md : Region.Mode} {Zs : St → Prop}
end
section
set_option maxRecDepth 200000
set_option maxHeartbeats 16000000
theorem told_x {S : St} {k : Nat} {c p : Int} {d : D} (h : ErrAt k c p S d) : DAt Tryz.prog 8 [d, .v (.int .i64 c), .v (.int .i64 p)] S (.v (.bool true)) := by
  refine dcalls_inline mixed Tryz.func8 rfl (fun _ _ => by kernel_rfl) (rs := [.tmp 6]) rfl (by kernel_rfl) (fun hS => ?_)
  rcases h with ⟨rfl, rfl⟩ | ⟨hc, b, hb, rfl, h4⟩
  · have b1 : ((0 : Int) == 0) = true := by decide
    (simp (disch := first | decide | omega | (simp only [nx]; first | done | omega)) only [go_sem, b1]; (repeat with_reducible refine aI ?_))
  · have b1 : (c == 0) = false := by simpa using hc
    have hch : Chain S [p] c (atD b) := .at_ h4 (.code c)
    unfold atD at hch ⊢
    (simp (disch := first | decide | omega | (simp only [nx]; first | done | omega)) only [go_sem, b1]; (repeat with_reducible refine aI ?_))
    refine DCalls.mono (code01_at hch (by simp)) ?_
    rintro _ _ ⟨rfl, rfl⟩
    (simp (disch := first | decide | omega | (simp only [nx]; first | done | omega)) only [go_sem, beq_self_eq_true]; (repeat with_reducible refine aI ?_))
    refine DCalls.mono (place_at hch) ?_
    rintro _ _ ⟨rfl, rfl⟩
    (simp (disch := first | decide | omega | (simp only [nx]; first | done | omega)) only [go_sem, outP, beq_self_eq_true]; (repeat with_reducible refine aI ?_))
end
end Go.Proofs.YtonncfminojejaaGreatDoor

namespace Go.Proofs.YtonncfminojejaaGreatDoor
open Go.RowKit
theorem dcopy_by {S : St} {k off n c : Nat} {bt ty : TypeId} {cs : List D} {own : Own} {xs : List UInt8} {K : D → St → Prop} (hk : S.ob k = some (.box bt cs)) (hn : off + n ≤ cs.length) (hx : xs.length ≤ n)
    {cs' : List D} (hcs : cs.take off ++ xs.map bD ++ cs.drop (off + xs.length) = cs') (h : K (.v (.int .i64 (xs.length : Nat))) (S.set k (.box bt cs'))) : dcopy Tryz.prog #[22, 22] ty (.win k off n c) (.sl own (xs.map bD)) S K := by
  have hm : Nat.min xs.length n = xs.length := Nat.min_eq_left hx
  have hs : SrcOk S (szOf Tryz.prog 5) (.sl own (xs.map bD)) (xs.map bD).length (flat (xs.map bD)) := srcOk_sl (by rw [szBy]; exact wBy xs)
  rw [List.length_map, flat_bD2] at hs
  refine dcopy_win elBy (by kernel_rfl) hk hs (by rw [hm, szBy]; omega) (cs' := cs') ?_ (by rw [hm]; exact h)
  rw [hm, szBy, Nat.mul_one, List.take_of_length_le (by simp)]
  unfold splice
  rw [List.length_map]
  exact hcs
theorem rwV_two (l : List UInt8) (x : Rst) (m : Nat) : rwV l x m = [] ∨ (rwV l x m).length = m := by
  unfold rwV
  split
  · split
    · exact .inl rfl
    · right; rw [List.length_take]; omega
  · exact .inl rfl
theorem zH_eq : [D.v (.int .u8 0), D.v (.int .u8 0), D.v (.int .u8 0), D.v (.int .u8 0), D.v (.int .u8 0), D.v (.int .u8 0), D.v (.int .u8 0), D.v (.int .u8 0), D.v (.int .u8 0), D.v (.int .u8 0), D.v (.int .u8 0), D.v (.int .u8 0), D.v (.int .u8 0), D.v (.int .u8 0), D.v (.int .u8 0), D.v (.int .u8 0), D.v (.int .u8 0), D.v (.int .u8 0), D.v (.int .u8 0), D.v (.int .u8 0), D.v (.int .u8 0), D.v (.int .u8 0), D.v (.int .u8 0), D.v (.int .u8 0), D.v (.int .u8 0), D.v (.int .u8 0), D.v (.int .u8 0), D.v (.int .u8 0), D.v (.int .u8 0), D.v (.int .u8 0), D.v (.int .u8 0), D.v (.int .u8 0)] = zH.1.map bD := by kernel_rfl
theorem hV_copy (l : List UInt8) (x : Rst) : (zH.1.map bD).take 0 ++ (rwV l x 32).map bD ++ (zH.1.map bD).drop (0 + (rwV l x 32).length) = (hV l x).1.map bD := by
  unfold hV
  rcases rwV_two l x 32 with h | h
  · rw [dif_neg (by rw [h]; simp), h]
    simp
  · rw [dif_pos h, h, List.drop_eq_nil_of_le (by simp [zH])]
    simp
def RowE (e : TypeId) (lo : Nat) (own : Own) (n : Nat) (T : St) : Prop := (own = .full ∧ n = 0) ∨ ∃ g, own = .row g ∧ lo ≤ g ∧ T.ob g = some (.row e n)
theorem grow_box {S : St} {own : Own} {e : TypeId} {n m lo : Nat} (hS : S.WF) (h : RowE e lo own m S) {j : Nat} {t : TypeId} {cs : List D} (hj : S.ob j = some (.box t cs)) : (S.grow own e n).ob j = some (.box t cs) := by
  have hl := hS.lt hj
  rw [grow_skip (by omega) (fun g hg => ?_), hj]
  rintro rfl
  rcases h with ⟨h, _⟩ | ⟨g', h, _, h2⟩
  · rw [h] at hg; cases hg
  · rw [h] at hg; injection hg with hg; subst hg; rw [h2] at hj; cases hj
theorem RowE.grow {e : TypeId} {lo n m : Nat} {own : Own} {T : St} (hlo : lo ≤ T.next) : RowE e lo (.row T.next) m (T.grow own e m) := .inr ⟨T.next, rfl, hlo, grow_hit⟩
theorem RowE.low {e : TypeId} {lo n m : Nat} {own : Own} {T : St} (hT : T.WF) (h : RowE e lo own n T) {j : Nat} {o : Ob} (hj : j < lo) (ho : T.ob j = some o) : (T.grow own e m).ob j = some o := by
  have hl := hT.lt ho
  rw [grow_skip (by omega) (fun g hg => ?_), ho]
  rcases h with ⟨h, _⟩ | ⟨g', h, h1, _⟩
  · rw [h] at hg; cases hg
  · rw [h] at hg; injection hg with hg; omega
theorem RowE.len {e : TypeId} {lo n : Nat} {own : Own} {T : St} {es : List D} (h : RowE e lo own n T) (hn : es.length = n) : (own = .full ∧ es = []) ∨ ∃ g, own = .row g ∧ T.ob g = some (.row e es.length) := by
  subst hn
  exact h.imp (fun h => ⟨h.1, List.eq_nil_of_length_eq_zero h.2⟩) fun ⟨g, h1, _, h2⟩ => ⟨g, h1, h2⟩
theorem RowE.keep {e : TypeId} {lo n : Nat} {own : Own} {S T : St} (h : RowE e lo own n S) (hk : ∀ g, lo ≤ g → S.ob g = some (.row e n) → T.ob g = some (.row e n)) : RowE e lo own n T := h.imp id fun ⟨g, h1, h2, h3⟩ => ⟨g, h1, h2, hk g h2 h3⟩
theorem EAt.boxes {k : Nat} {l : List UInt8} {x : Rst} {S T : St} (h : EAt k l x S) (hb : ∀ j t cs, S.ob j = some (.box t cs) → T.ob j = some (.box t cs)) : EAt k l x T := by
  obtain ⟨o, e, h1, h2⟩ := h
  refine ⟨o, e, hb _ _ _ h1, ?_⟩
  rcases h2 with h2 | ⟨h2, b, h3, h4, h5⟩
  · exact .inl h2
  · exact .inr ⟨h2, b, h3, h4, hb _ _ _ h5⟩
theorem EAt.put {k q : Nat} {l : List UInt8} {x : Rst} {S : St} {t : TypeId} {cs cs' : List D} (h : EAt k l x S) (hkq : q ≠ k) (hq : S.ob q = some (.box t cs)) (ht : t ≠ 104) : EAt k l x (S.set q (.box t cs')) := by
  obtain ⟨o, e, h1, h2⟩ := h
  refine ⟨o, e, by rw [set_ne (Ne.symm hkq)]; exact h1, ?_⟩
  rcases h2 with h2 | ⟨h2, b, h3, h4, h5⟩
  · exact .inl h2
  · refine .inr ⟨h2, b, h3, h4, ?_⟩
    rw [set_ne ?_]; exact h5
    rintro rfl
    rw [hq] at h5
    injection h5 with h5
    injection h5 with h5 _
    exact ht h5
section
set_option maxRecDepth 200000
set_option maxHeartbeats 8000000
theorem mcount_x {S : St} {k : Nat} {l : List UInt8} {x : Rst} {a b : Nat} (hk : k < S.next) (hr : EAt k l x S) (hi : x.1 ≤ l.length) (hl : l.length ≤ 1048576) (ha : a < 1000) (hb : b < 1000) :
    DCalls Tryz.prog 24 [.loc k 0, .v (.int .u64 (a : Int)), .v (.int .u64 (b : Int))] S fun d T => d = .v (.int .i64 ((cntR l x a b).1 : Int)) ∧ EAt k l (cntR l x a b).2 T ∧ RFr k S T := by
  refine dcalls_inline mixed Tryz.func24 rfl (fun _ _ => by kernel_rfl) (rs := [.tmp 6]) rfl (by kernel_rfl) (fun hS => ?_)
  (simp (disch := first | decide | omega | (simp only [nx]; first | done | omega)) only [go_sem]; (repeat with_reducible refine aI ?_))
  refine (number_x (m := 18446744073709551615) hk hr hi (by omega)).wf.mono ?_
  rintro _ T ⟨⟨rfl, h1, F1⟩, hT⟩
  have n1 := F1.next
  (simp (disch := first | decide | omega | (simp only [nx]; first | done | omega)) only [go_sem]; (repeat with_reducible refine aI ?_))
  refine (err_x h1).mono ?_
  rintro er _ ⟨he, rfl⟩
  unfold cntR
  by_cases hc : (nuN l x MU).2.1 ≠ 0
  · rw [if_pos hc]
    rcases he with ⟨he, rfl⟩ | ⟨he, eb, hb1, rfl, hb2⟩
    · exact absurd he hc
    unfold atD
    (simp (disch := first | decide | omega | (simp only [nx]; first | done | omega)) only [go_sem]; (repeat with_reducible refine aI ?_))
    exact F1
  rw [if_neg hc]
  have he : er = .v .nilIface := by
    rcases he with ⟨he, h⟩ | ⟨he, _⟩
    · exact h
    · exact absurd he (by simpa using hc)
  subst he
  by_cases h2 : b < nuV l x MU
  · have b1 : decide ((b : Int) < ((nuV l x MU : Nat) : Int)) = true := decide_eq_true (by omega)
    rw [if_pos h2]
    (simp (disch := first | decide | omega | (simp only [nx]; first | done | omega)) only [go_sem, b1]; (repeat with_reducible refine aI ?_))
    refine (fail_x 3 h1).mono ?_
    rintro _ T2 ⟨rfl, h3, F2⟩
    (simp (disch := first | decide | omega | (simp only [nx]; first | done | omega)) only [go_sem]; (repeat with_reducible refine aI ?_))
    exact ⟨h3, F1.trans F2⟩
  have b1 : decide ((b : Int) < ((nuV l x MU : Nat) : Int)) = false := decide_eq_false (by omega)
  have w : IntKind.i64.wrap ((nuV l x MU : Nat) : Int) = ((nuV l x MU : Nat) : Int) := IntWalk.i64_in _ ⟨by omega, by omega⟩
  rw [if_neg h2]
  by_cases h3 : nuV l x MU < a
  · have b2 : decide (((nuV l x MU : Nat) : Int) < (a : Int)) = true := decide_eq_true (by omega)
    rw [if_pos h3]
    (simp (disch := first | decide | omega | (simp only [nx]; first | done | omega)) only [go_sem, b1, b2]; (repeat with_reducible refine aI ?_))
    refine (fail_x 2 h1).mono ?_
    rintro _ T2 ⟨rfl, h4, F2⟩
    (simp (disch := first | decide | omega | (simp only [nx]; first | done | omega)) only [go_sem, cv_u64i64, w]; (repeat with_reducible refine aI ?_))
    exact ⟨h4, F1.trans F2⟩
  · have b2 : decide (((nuV l x MU : Nat) : Int) < (a : Int)) = false := decide_eq_false (by omega)
    rw [if_neg h3]
    (simp (disch := first | decide | omega | (simp only [nx]; first | done | omega)) only [go_sem, b1, b2, cv_u64i64, w]; (repeat with_reducible refine aI ?_))
    exact F1
theorem mids_x {S : St} {k : Nat} {l : List UInt8} {x : Rst} {n : Nat} (hk : k < S.next) (hr : EAt k l x S) (hi : x.1 ≤ l.length) (hl : l.length ≤ 1048576) (hn : n ≤ 64) :
    DCalls Tryz.prog 23 [.loc k 0, .v (.int .i64 (n : Int))] S fun d T => d = .sl .no ((idsR l x n).1.map encH) ∧ EAt k l (idsR l x n).2 T ∧ RFr k S T := by
  refine DCalls.frz (K := fun d T => ∃ own, d = .sl own ((idsR l x n).1.map encH) ∧ EAt k l (idsR l x n).2 T ∧ RFr k S T) ?_ (fun d T ⟨own, h1, h2⟩ => ⟨by rw [h1]; simp only [D.frz, frz_Hs], h2⟩)
  refine dcalls_inline mixed Tryz.func23 rfl (fun _ _ => by kernel_rfl) (rs := [.tmp 4]) rfl (by kernel_rfl) (fun hS => ?_)
  (simp (disch := first | decide | omega | (simp only [nx]; first | done | omega)) only [go_sem]; (repeat with_reducible refine aI ?_))
  refine dloop_up (fun t => List.contains [5, 6, 8, 9, 10, 11, 12, 13, 14, 15, 16, 17, 18, 19, 20, 21, 22, 23] t) (by kernel_rfl) (by exact hS) n (fun i g T => i ≤ n ∧ g 8 = .v (.int .i64 ((i : Nat) : Int)) ∧ ∃ own, g 5 = .sl own ((idsR l x i).1.map encH) ∧ RowE 45 S.next own i T ∧ EAt k l (idsR l x i).2 T ∧ RFr k S T)
    ⟨by omega, by (first | (simp (disch := first | decide | omega | (simp only [nx]; first | done | omega)) only [go_sem]; first | done | rfl) | rfl), _, by (first | (simp (disch := first | decide | omega | (simp only [nx]; first | done | omega)) only [go_sem]; first | done | rfl) | rfl), .inl ⟨rfl, rfl⟩, hr, RFr.refl _ _⟩ ?_
  rintro i g T hT hg ⟨le, q8, own, q5, hrow, hE, hF⟩
  (have q0 := hg 0 rfl; have q4 := hg 4 rfl; have q7 := hg 7 rfl; simp (disch := first | decide | omega | (simp only [nx]; first | done | omega)) only [go_sem] at q0 q4 q7; clear hg)
  have nF := hF.next
  have hle := ids_le (l := l) (x := x) hi i
  have hlen := ids_len (l := l) (x := x) i
  by_cases hlt : i < n
  · have b1 : decide ((i : Int) < (n : Int)) = true := decide_eq_true (by omega)
    have w1 : IntKind.i64.wrap ((i : Int) + 1) = ((i + 1 : Nat) : Int) := IntWalk.i64_in _ ⟨by omega, by omega⟩
    (simp (disch := first | decide | omega | (simp only [nx]; first | done | omega)) only [go_sem, q0, q7, q8, b1]; (repeat with_reducible refine aI ?_))
    rw [zH_eq]
    obtain ⟨T1, hT1⟩ : ∃ T1 : St, T1 = T.add (.box 45 (zH.1.map bD)) := ⟨_, rfl⟩
    have hW1 : T1.WF := by rw [hT1]; exact hT.add _
    have hn1 : T1.next = T.next + 1 := by rw [hT1]; rfl
    have hk1 : ∀ j o, T.ob j = some o → T1.ob j = some o := fun j o e => by have := hT.lt e; rw [hT1, add_ne this, e]
    have hb1 : T1.ob T.next = some (.box 45 (zH.1.map bD)) := by rw [hT1]; exact add_eq
    rw [← hT1]
    have hE1 := hE.keep hk1
    refine ddraw_any (fun _ => True) 4 (by (first | (simp (disch := first | decide | omega | (simp only [nx]; first | done | omega)) only [go_sem]; first | done | rfl) | rfl)) (by kernel_rfl) ?_
    (refine s_take 0 rfl (by kernel_rfl) (by kernel_rfl) (v := ?v1) (fun S' hz => dquietR_of ?h1) <| s_take 1 rfl (by kernel_rfl) (by kernel_rfl) (v := ?v2) (fun S' hz => dquietR_of ?h2) <| ?k2; (case h1 | h2 => ((simp (disch := first | decide | omega | (simp only [nx]; first | done | omega)) only [go_sem, hb1, q0, hz]; (repeat with_reducible refine aI ?_)); first | done | exact rfl | omega)))
    (refine s_split [2] (by kernel_rfl) (by simp) ?_; intro j_ hj_; obtain rfl : j_ = 2 := (by simpa using hj_); clear hj_; refine s_op rfl ?_; (simp (disch := first | decide | omega | (simp only [nx]; first | done | omega)) only [go_sem]; (repeat with_reducible refine aI ?_)))
    refine (raw_x (mx := 32) (by unfold IsI64; omega) (by omega) hE1 hle (by omega)).wf.mono ?_
    rintro _ T2 ⟨⟨⟨o2, rfl⟩, hE2, F2⟩, hW2⟩
    have hb2 := F2.ob T.next _ (by omega) hb1
    have n2 := F2.next
    (refine s_split [3] (by kernel_rfl) (by simp) ?_; intro j_ hj_; obtain rfl : j_ = 3 := (by simpa using hj_); clear hj_; refine s_op rfl ?_; (simp (disch := first | decide | omega | (simp only [nx]; first | done | omega)) only [go_sem]; (repeat with_reducible refine aI ?_)))
    have hrl : (rwV l (idsR l x i).2 32).length ≤ 32 := by
      rcases rwV_two l (idsR l x i).2 32 with h | h
      · rw [h]; simp
      · omega
    refine dcopy_by hb2 (by simp [zH]) hrl (hV_copy l (idsR l x i).2) ?_
    obtain ⟨T3, hT3⟩ : ∃ T3 : St, T3 = T2.set T.next (.box 45 ((hV l (idsR l x i).2).1.map bD)) := ⟨_, rfl⟩
    have hW3 : T3.WF := by rw [hT3]; exact hW2.set (by omega) _
    have n3 : T3.next = T2.next := by rw [hT3]; rfl
    have hk3 : ∀ j o, j ≠ T.next → T2.ob j = some o → T3.ob j = some o := fun j o hj e => by rw [hT3, set_ne hj, e]
    have hb3 : T3.ob T.next = some (.box 45 ((hV l (idsR l x i).2).1.map bD)) := by rw [hT3]; exact set_eq
    have hE3 : EAt k l (rwN l (idsR l x i).2 32) T3 := by rw [hT3]; exact hE2.put (by omega) hb2 (by decide)
    rw [← hT3]
    clear hT3
    have F3 : RFr k S T3 := ⟨by omega, fun j o hj e => by have := hS.lt e; exact hk3 j o (by omega) (F2.ob j o hj (hk1 j o (hF.ob j o hj e)))⟩
    have hrow3 : RowE 45 S.next own i T3 := hrow.keep fun gr g1 g3 => by have := hT.lt g3; exact hk3 gr _ (by omega) (F2.ob gr _ (by omega) (hk1 gr _ g3))
    have hlh := (hV l (idsR l x i).2).2
    (refine s_done (by kernel_rfl) ?_; (simp (disch := first | decide | omega | (simp only [nx]; first | done | omega)) only [go_sem, q5, hb3, hlh]; (repeat with_reducible refine aI ?_)))
    refine dapp_hs (own := own) (es := (idsR l x i).1.map encH) (o := encH (hV l (idsR l x i).2)) (hrow3.len (by rw [List.length_map, hlen])) (by rw [List.length_map]; omega) (wHs _) (width_encH _) ?_
    rw [List.length_map, hlen]
    have hlist : (idsR l x i).1.map encH ++ [encH (hV l (idsR l x i).2)] = ((idsR l x i).1 ++ [hV l (idsR l x i).2]).map encH := by simp
    rw [hlist]
    obtain ⟨T4, hT4⟩ : ∃ T4 : St, T4 = T3.grow own 45 (i + 1) := ⟨_, rfl⟩
    have hW4 : T4.WF := by rw [hT4]; exact hW3.grow _ _ _
    have n4 : T4.next = T3.next + 1 := by rw [hT4, grow_next]
    have hrow4 : RowE 45 S.next (.row T3.next) (i + 1) T4 := by rw [hT4]; exact RowE.grow (n := i) (by omega)
    have hE4 : EAt k l (rwN l (idsR l x i).2 32) T4 := hE3.boxes fun j t cs e => by rw [hT4]; exact grow_box hW3 hrow3 e
    have F4 : RFr k S T4 := ⟨by omega, fun j o hj e => by have := hS.lt e; rw [hT4]; exact hrow3.low hW3 (by omega) (F3.ob j o hj e)⟩
    rw [← hT4]
    clear hT4
    (simp (disch := first | decide | omega | (simp only [nx]; first | done | omega)) only [go_sem]; (repeat with_reducible refine aI ?_))
    refine DCalls.of_pure (rising_d _ ((idsR l x i).1 ++ [hV l (idsR l x i).2]) (by simp; omega)) ?_
    by_cases hrs : riseH ((idsR l x i).1 ++ [hV l (idsR l x i).2]) = true
    · have e1 : idsR l x (i + 1) = ((idsR l x i).1 ++ [hV l (idsR l x i).2], rwN l (idsR l x i).2 32) := by rw [idsR, if_pos hrs]
      rw [hrs]
      (simp (disch := first | decide | omega | (simp only [nx]; first | done | omega)) only [go_sem, q8, w1]; (repeat with_reducible refine aI ?_))
      refine ⟨by omega, T4.ob, fun _ _ h => h, by omega, by (first | (simp (disch := first | decide | omega | (simp only [nx]; first | done | omega)) only [go_sem, w1]; first | done | rfl) | rfl), _, by (first | (simp (disch := first | decide | omega | (simp only [nx]; first | done | omega)) only [go_sem]; first | done | rfl) | rfl), hrow4, ?_, F4⟩
      rw [e1]; exact hE4
    · have e1 : idsR l x (i + 1) = ((idsR l x i).1 ++ [hV l (idsR l x i).2], nxt (rwN l (idsR l x i).2 32) (.error 2)) := by rw [idsR, if_neg hrs]
      rw [Bool.not_eq_true] at hrs
      rw [hrs]
      (simp (disch := first | decide | omega | (simp only [nx]; first | done | omega)) only [go_sem, q0, q8]; (repeat with_reducible refine aI ?_))
      refine (fail_x 2 hE4).wf.mono ?_
      rintro _ T5 ⟨⟨rfl, hE5, F5⟩, hW5⟩
      have n5 := F5.next
      (simp (disch := first | decide | omega | (simp only [nx]; first | done | omega)) only [go_sem, q8, w1]; (repeat with_reducible refine aI ?_))
      refine ⟨by omega, T5.ob, fun _ _ h => h, by omega, by (first | (simp (disch := first | decide | omega | (simp only [nx]; first | done | omega)) only [go_sem, w1]; first | done | rfl) | rfl), _, by rw [e1]; (first | (simp (disch := first | decide | omega | (simp only [nx]; first | done | omega)) only [go_sem]; first | done | rfl) | rfl), hrow4.keep fun gr g1 g3 => F5.ob gr _ (by omega) g3, ?_, F4.trans F5⟩
      rw [e1]; exact hE5
  · have b1 : decide ((i : Int) < (n : Int)) = false := decide_eq_false (by omega)
    obtain rfl : i = n := by omega
    (simp (disch := first | decide | omega | (simp only [nx]; first | done | omega)) only [go_sem, q0, q5, q7, q8, b1]; (repeat with_reducible refine aI ?_))
    exact ⟨own, rfl, hE, hF⟩
end
end Go.Proofs.YtonncfminojejaaGreatDoor

namespace Go.Proofs.YtonncfminojejaaGreatDoor
open Go.RowKit
def mB (n : Int) (r : Bool) (f : F64) (i e : D) : List D := .v (.int .i64 n) :: .v (.bool r) :: (f.1.map bD ++ [i, e])
theorem mB_len (n : Int) (r : Bool) (f : F64) (i e : D) : (mB n r f i e).length = 68 := by simp [mB, f.2]
theorem mB_k (n : Int) (r : Bool) (f : F64) (i e : D) : (mB n r f i e).getD 0 undefD = .v (.int .i64 n) := Eq.trans (Eq.refl _) (Eq.refl _)
theorem mB_tail (n : Int) (r : Bool) (f : F64) (i e : D) (j : Nat) : (mB n r f i e).getD (66 + j) undefD = [i, e].getD j undefD := by
  rw [mB, show 66 + j = (64 + j + 1) + 1 by omega, List.getD_cons_succ, List.getD_cons_succ, List.getD_eq_getElem?_getD, List.getElem?_append_right (by rw [len_encF]; omega), len_encF, show 64 + j - 64 = j by omega, List.getD_eq_getElem?_getD]
theorem mB_i (n : Int) (r : Bool) (f : F64) (i e : D) : (mB n r f i e).getD 66 undefD = i := mB_tail n r f i e 0
theorem mB_e (n : Int) (r : Bool) (f : F64) (i e : D) : (mB n r f i e).getD 67 undefD = e := mB_tail n r f i e 1
theorem mB_sr (n : Int) (r b : Bool) (f : F64) (i e : D) : (mB n r f i e).take 1 ++ [D.v (.bool b)] ++ (mB n r f i e).drop 2 = mB n b f i e := Eq.trans (Eq.refl _) (Eq.refl _)
theorem mB_split (n : Int) (r : Bool) (f : F64) (i e : D) : mB n r f i e = (.v (.int .i64 n) :: .v (.bool r) :: f.1.map bD) ++ [i, e] := rfl
theorem mB_hd (n : Int) (r : Bool) (f : F64) : (D.v (.int .i64 n) :: .v (.bool r) :: f.1.map bD).length = 66 := by simp [f.2]
theorem mB_si (n : Int) (r : Bool) (f : F64) (i e i' : D) : (mB n r f i e).take 66 ++ [i'] ++ (mB n r f i e).drop 67 = mB n r f i' e := by
  have h := mB_hd n r f
  have h1 : (mB n r f i e).take 66 = D.v (.int .i64 n) :: .v (.bool r) :: f.1.map bD := by rw [mB_split, List.take_append_of_le_length (by omega), List.take_of_length_le (by omega)]
  have h2 : (mB n r f i e).drop 67 = [e] := by rw [mB_split, List.drop_append, List.drop_eq_nil_of_le (by omega), h]; rfl
  rw [h1, h2, mB_split]; simp
theorem mB_se (n : Int) (r : Bool) (f : F64) (i e e' : D) : (mB n r f i e).take 67 ++ [e'] ++ (mB n r f i e).drop 68 = mB n r f i e' := by
  have h := mB_hd n r f
  have h1 : (mB n r f i e).take 67 = (D.v (.int .i64 n) :: .v (.bool r) :: f.1.map bD) ++ [i] := by rw [mB_split, List.take_append, List.take_of_length_le (by omega), h]; rfl
  have h2 : (mB n r f i e).drop 68 = [] := List.drop_eq_nil_of_le (by rw [mB_len]; omega)
  rw [h1, h2, mB_split]; simp
theorem mB_take (n : Int) (r : Bool) (f : F64) (i e : D) : (mB n r f i e).take 68 = mB n r f i e := List.take_of_length_le (by rw [mB_len]; omega)
theorem mB_f (l : List UInt8) (x : Rst) (n : Int) (r : Bool) (i e : D) : (mB n r zF i e).take 2 ++ (rwV l x 64).map bD ++ (mB n r zF i e).drop (2 + (rwV l x 64).length) = mB n r (fV l x) i e := by
  unfold fV
  rcases rwV_two l x 64 with h | h
  · rw [dif_neg (by rw [h]; simp), h]
    simp [mB]
  · rw [dif_pos h, h]
    have h2 : (mB n r zF i e).drop (2 + 64) = [i, e] := by rw [mB_split, List.drop_append, List.drop_eq_nil_of_le (by rw [mB_hd]; omega), mB_hd]; rfl
    rw [h2]
    show [D.v (.int .i64 n), .v (.bool r)] ++ _ ++ _ = _
    simp [mB]
theorem mB_frz (n : Int) (r : Bool) (f : F64) (ids : List H32) (es : List (List UInt8)) (o o2 : Own) : (D.agg (mB n r f (.sl o (ids.map encH)) (.sl o2 (es.map encB)))).frz = encMs ⟨n, r, f, ids, es⟩ := by
  simp only [mB, encMs, msCs, msT, frz_agg, frzL, D.frz, frzL_append, frz_bB, frz_Hs, frz_Es, frz_bDs]
theorem mB_z (n : Int) : [.v (.int .i64 n), .v (.bool false), D.v (.int .u8 0), D.v (.int .u8 0), D.v (.int .u8 0), D.v (.int .u8 0), D.v (.int .u8 0), D.v (.int .u8 0), D.v (.int .u8 0), D.v (.int .u8 0), D.v (.int .u8 0), D.v (.int .u8 0), D.v (.int .u8 0), D.v (.int .u8 0), D.v (.int .u8 0), D.v (.int .u8 0), D.v (.int .u8 0), D.v (.int .u8 0), D.v (.int .u8 0), D.v (.int .u8 0), D.v (.int .u8 0), D.v (.int .u8 0), D.v (.int .u8 0), D.v (.int .u8 0), D.v (.int .u8 0), D.v (.int .u8 0), D.v (.int .u8 0), D.v (.int .u8 0), D.v (.int .u8 0), D.v (.int .u8 0), D.v (.int .u8 0), D.v (.int .u8 0), D.v (.int .u8 0), D.v (.int .u8 0), D.v (.int .u8 0), D.v (.int .u8 0), D.v (.int .u8 0), D.v (.int .u8 0), D.v (.int .u8 0), D.v (.int .u8 0), D.v (.int .u8 0), D.v (.int .u8 0), D.v (.int .u8 0), D.v (.int .u8 0), D.v (.int .u8 0), D.v (.int .u8 0), D.v (.int .u8 0), D.v (.int .u8 0), D.v (.int .u8 0), D.v (.int .u8 0), D.v (.int .u8 0), D.v (.int .u8 0), D.v (.int .u8 0), D.v (.int .u8 0), D.v (.int .u8 0), D.v (.int .u8 0), D.v (.int .u8 0), D.v (.int .u8 0), D.v (.int .u8 0), D.v (.int .u8 0), D.v (.int .u8 0), D.v (.int .u8 0), D.v (.int .u8 0), D.v (.int .u8 0), D.v (.int .u8 0), D.v (.int .u8 0), .sl .full [], .sl .full []] = mB n false zF (.sl .full []) (.sl .full []) := by kernel_rfl
structure FrM (k q : Nat) (S T : St) : Prop where
  next : S.next ≤ T.next
  ob : ∀ j o, j ≠ k → j ≠ q → S.ob j = some o → T.ob j = some o
theorem FrM.refl (k q : Nat) (S : St) : FrM k q S S := ⟨Nat.le_refl _, fun _ _ _ _ h => h⟩
theorem FrM.rfr {k q : Nat} {S T V : St} (h : FrM k q S T) (F : RFr k T V) : FrM k q S V := ⟨Nat.le_trans h.next F.next, fun j o h1 h2 e => F.ob j o h1 (h.ob j o h1 h2 e)⟩
theorem FrM.set {k q : Nat} {S T : St} (h : FrM k q S T) (o : Ob) : FrM k q S (T.set q o) := ⟨h.next, fun j o h1 h2 e => by rw [set_ne h2]; exact h.ob j o h1 h2 e⟩
theorem ErrAt.frz {k : Nat} {c p : Int} {T : St} {e : D} (h : ErrAt k c p T e) : e.frz = e := by
  rcases h with ⟨_, rfl⟩ | ⟨_, b, _, rfl, _⟩ <;> rfl
theorem dIf_cutB {P : Program} {f : Fm} {S : St} {Q : DQ} {b : Bool} {x y : Code} {id : Nat} {k : Fm → St → Prop} (J : Fm → St → Prop) (h : dIf (.v (.bool b)) (dwpF P x (DQ.block id (DQ.then J Q)) f S) (dwpF P y (DQ.block id (DQ.then J Q)) f S)) (hk : ∀ f' S', J f' S' → k f' S') : dIf (.v (.bool b)) (dwpF P x (DQ.block id (DQ.then k Q)) f S) (dwpF P y (DQ.block id (DQ.then k Q)) f S) := by
  have key : ∀ c : Code, dwp P c (DQ.block id (DQ.then J Q)) f S → dwp P c (DQ.block id (DQ.then k Q)) f S := fun c hc => dwp_mono c (fun e f' S' hq => by
    cases e with
    | normal => exact hk _ _ hq
    | exit i =>
      simp only [DQ.block] at *
      cases hi : Nat.beq i id with
      | true => rw [hi] at hq; exact hk _ _ hq
      | false => rw [hi] at hq; exact hq
    | ret => exact hq) hc
  exact ⟨fun e => key x (h.1 e), fun e => key y (h.2 e)⟩
theorem cnt_most (l : List UInt8) (x : Rst) (a b : Nat) : (cntR l x a b).1 ≤ b := by
  unfold cntR
  split
  · exact Nat.zero_le _
  split
  · exact Nat.zero_le _
  split <;> (show nuV l x MU ≤ b; omega)
section
set_option maxRecDepth 200000
set_option maxHeartbeats 8000000
theorem bytesN_x {S : St} {k : Nat} {l : List UInt8} {x : Rst} {mx : Int} (hm : IsI64 mx) (hk : k < S.next) (hr : EAt k l x S) (hi : x.1 ≤ l.length) (hl : l.length ≤ 1099511627776) :
    DCalls Tryz.prog 25 [.loc k 0, .v (.int .i64 mx)] S fun d T => d = encB (bsV l x mx.toNat) ∧ EAt k l (nxt x (bsE (l.drop x.1) mx.toNat)) T ∧ RFr k S T :=
  DCalls.frz (bytes_x hm hk hr hi hl) fun d T ⟨⟨o, h1⟩, h2⟩ => ⟨by rw [h1]; simp only [D.frz, frz_bDs, encB], h2⟩
attribute [local go_sem] mB_k mB_i mB_e mB_sr mB_si mB_se mB_len mB_take
theorem decode25_x {S : St} (own : Own) (l : List UInt8) (hl : l.length ≤ 1048576) :
    DCalls Tryz.prog 6 [.sl own (l.map bD)] S fun d T => ∃ k e, d = .tup [encMs (if (endX l (decM l).2).2.1 = 0 then (decM l).1 else zM), e] ∧ S.next ≤ k ∧ ErrAt k (endX l (decM l).2).2.1 (endX l (decM l).2).2.2 T e ∧ S.next ≤ T.next ∧ ∀ j o, S.ob j = some o → T.ob j = some o := by
  refine DCalls.frz (K := fun d T => ∃ k dm e, d = .tup [dm, e] ∧ dm.frz = encMs (if (endX l (decM l).2).2.1 = 0 then (decM l).1 else zM) ∧ S.next ≤ k ∧ ErrAt k (endX l (decM l).2).2.1 (endX l (decM l).2).2.2 T e ∧ S.next ≤ T.next ∧ ∀ j o, S.ob j = some o → T.ob j = some o) ?_ (fun d T ⟨k, dm, e, h1, h2, h3, h4, h5⟩ => ⟨k, e, by rw [h1]; simp only [D.frz, frzL, h2, h4.frz], h3, h4, h5⟩)
  refine dcalls_inline mixed Tryz.func6 rfl (fun _ _ => by kernel_rfl) (rs := [.cell 2 28, .tmp 3]) rfl (by kernel_rfl) (fun hS => ?_)
  (simp (disch := first | decide | omega | (simp only [nx]; first | done | omega)) only [go_sem]; (repeat with_reducible refine aI ?_))
  refine (new_r (l := l) (by omega)).wf.mono ?_
  rintro _ T1 ⟨⟨k, rfl, hk1, hk2, hR, hob⟩, hT1⟩
  have hk1' : S.next + 1 ≤ k := hk1
  have z1 := hob _ _ (add_eq (S := S))
  have hF1 : ∀ j o, S.ob j = some o → T1.ob j = some o := fun j o e => by have := hS.lt e; exact hob j o (add_keep hS _ j o e)
  have hE1 : EAt k l x0 T1 := by
    obtain ⟨o, hR⟩ := hR
    exact ⟨o, _, hR, .inl ⟨rfl, rfl⟩⟩
  clear hR hob
  (simp (disch := first | decide | omega | (simp only [nx]; first | done | omega)) only [go_sem]; (repeat with_reducible refine aI ?_))
  refine (byte_x hk2 hE1 (Nat.zero_le _) (by omega)).wf.mono ?_
  rintro _ T2 ⟨⟨rfl, hE2, F2⟩, hW2⟩
  have n2 := F2.next
  have z2 := F2.ob S.next _ (by omega) z1
  have hlb := by_le (x0_le l)
  have wk : IntKind.i64.wrap ((byV l x0).toNat : Int) = ((byV l x0).toNat : Int) := IntWalk.i64_in _ ⟨by have := (byV l x0).toNat_lt; omega, by have := (byV l x0).toNat_lt; omega⟩
  (simp (disch := first | decide | omega | (simp only [nx]; first | done | omega)) only [go_sem, bD_eq, cv_u8i64, wk]; (repeat with_reducible refine aI ?_))
  rw [mB_z, add_setq]
  obtain ⟨T3, hT3⟩ : ∃ T3 : St, T3 = T2.add (.box 28 (mB ((byV l x0).toNat : Int) false zF (.sl .full []) (.sl .full []))) := ⟨_, rfl⟩
  obtain ⟨q, hq⟩ : ∃ q, q = T2.next := ⟨_, rfl⟩
  have hW3 : T3.WF := by rw [hT3]; exact hW2.add _
  have n3 : T3.next = q + 1 := by rw [hT3, hq]; rfl
  have k3 : ∀ j o, T2.ob j = some o → T3.ob j = some o := fun j o e => by have := hW2.lt e; rw [hT3, add_ne this, e]
  have b3 : T3.ob q = some (.box 28 (mB ((byV l x0).toNat : Int) false zF (.sl .full []) (.sl .full []))) := by rw [hT3, hq]; exact add_eq
  have hE3 : EAt k l (byN l x0) T3 := hE2.keep k3
  have hkq : k < q := by omega
  have z3 := k3 _ _ z2
  have hF3 : ∀ j o, j < S.next → S.ob j = some o → T3.ob j = some o := fun j o hj e => k3 _ _ (F2.ob j o (by omega) (hF1 j o e))
  rw [← hT3, ← hq]
  clear hT3
  refine dIf_cutB (fun f' S' => f' 2 = .loc S.next 0 ∧ f' 4 = .loc k 0 ∧ f' 5 = .loc q 0 ∧ S'.WF ∧ (∃ n r f ids es o o2, S'.ob q = some (.box 28 (mB n r f (.sl o (ids.map encH)) (.sl o2 (es.map encB)))) ∧ (⟨n, r, f, ids, es⟩ : DMs) = (decM l).1) ∧ EAt k l (decM l).2 S' ∧ FrM k q T3 S') ?_ ?_
  · unfold decM
    refine dIf_both (fun hb => ?_) (fun hb => ?_)
    · have h1 : byV l x0 = 1 := UInt8.toNat_inj.1 (by have := beq_iff_eq.1 hb; show (byV l x0).toNat = 1; omega)
      have hku : (((1 : UInt8).toNat : Nat) : Int) = 1 := rfl
      simp only [h1, hku, if_true] at b3 ⊢
      (simp (disch := first | decide | omega | (simp only [nx]; first | done | omega)) only [go_sem]; (repeat with_reducible refine aI ?_))
      refine (bool_x (by omega) hE3 hlb (by omega)).wf.mono ?_
      rintro _ T4 ⟨⟨rfl, hE4, F4⟩, hW4⟩
      have b4 := F4.ob q _ (by omega) b3
      have n4 := F4.next
      (simp (disch := first | decide | omega | (simp only [nx]; first | done | omega)) only [go_sem, b4]; (repeat with_reducible refine aI ?_))
      obtain ⟨T5, hT5⟩ : ∃ T5 : St, T5 = T4.set q (.box 28 (mB 1 (boV l (byN l x0)) zF (.sl .full []) (.sl .full []))) := ⟨_, rfl⟩
      have hW5 : T5.WF := by rw [hT5]; exact hW4.set (by omega) _
      have n5 : T5.next = T4.next := by rw [hT5]; rfl
      have b5 : T5.ob q = some (.box 28 (mB 1 (boV l (byN l x0)) zF (.sl .full []) (.sl .full []))) := by rw [hT5]; exact set_eq
      have hE5 : EAt k l (boN l (byN l x0)) T5 := by rw [hT5]; exact hE4.put (by omega) b4 (by decide)
      have F5 : FrM k q T3 T5 := by rw [hT5]; exact ((FrM.refl k q T3).rfr F4).set _
      rw [← hT5]
      clear hT5
      have hl5 := bo_le hlb
      refine ddraw_any (fun _ => True) 5 (by (first | (simp (disch := first | decide | omega | (simp only [nx]; first | done | omega)) only [go_sem]; first | done | rfl) | rfl)) (by kernel_rfl) ?_
      (refine s_take 0 rfl (by kernel_rfl) (by kernel_rfl) (v := ?v1) (fun S' hz => dquietR_of ?h1) <| s_take 1 rfl (by kernel_rfl) (by kernel_rfl) (v := ?v2) (fun S' hz => dquietR_of ?h2) <| s_take 2 rfl (by kernel_rfl) (by kernel_rfl) (v := ?v3) (fun S' hz => dquietR_of ?h3) <| ?k3; (case h1 | h2 | h3 => ((simp (disch := first | decide | omega | (simp only [nx]; first | done | omega)) only [go_sem, b5, hz]; (repeat with_reducible refine aI ?_)); first | done | exact rfl | omega)))
      (refine s_split [3] (by kernel_rfl) (by simp) ?_; intro j_ hj_; obtain rfl : j_ = 3 := (by simpa using hj_); clear hj_; refine s_op rfl ?_; (simp (disch := first | decide | omega | (simp only [nx]; first | done | omega)) only [go_sem]; (repeat with_reducible refine aI ?_)))
      refine (raw_x (mx := 64) (by unfold IsI64; omega) (by omega) hE5 hl5 (by omega)).wf.mono ?_
      rintro _ T6 ⟨⟨⟨o6, rfl⟩, hE6, F6⟩, hW6⟩
      have b6 := F6.ob q _ (by omega) b5
      have n6 := F6.next
      (refine s_split [4] (by kernel_rfl) (by simp) ?_; intro j_ hj_; obtain rfl : j_ = 4 := (by simpa using hj_); clear hj_; refine s_op rfl ?_; (simp (disch := first | decide | omega | (simp only [nx]; first | done | omega)) only [go_sem]; (repeat with_reducible refine aI ?_)))
      have hrl : (rwV l (boN l (byN l x0)) 64).length ≤ 64 := by
        rcases rwV_two l (boN l (byN l x0)) 64 with h | h
        · rw [h]; simp
        · omega
      refine dcopy_by b6 (by rw [mB_len]; omega) hrl (mB_f l (boN l (byN l x0)) 1 _ _ _) ?_
      obtain ⟨T7, hT7⟩ : ∃ T7 : St, T7 = T6.set q (.box 28 (mB 1 (boV l (byN l x0)) (fV l (boN l (byN l x0))) (.sl .full []) (.sl .full []))) := ⟨_, rfl⟩
      have hW7 : T7.WF := by rw [hT7]; exact hW6.set (by omega) _
      have n7 : T7.next = T6.next := by rw [hT7]; rfl
      have b7 : T7.ob q = some (.box 28 (mB 1 (boV l (byN l x0)) (fV l (boN l (byN l x0))) (.sl .full []) (.sl .full []))) := by rw [hT7]; exact set_eq
      have hE7 : EAt k l (rwN l (boN l (byN l x0)) 64) T7 := by rw [hT7]; exact hE6.put (by omega) b6 (by decide)
      have F7 : FrM k q T3 T7 := by rw [hT7]; exact (F5.rfr F6).set _
      rw [← hT7]
      clear hT7
      have hl7 := rw_le (m := 64) hl5
      (refine s_done (by kernel_rfl) ?_; (simp (disch := first | decide | omega | (simp only [nx]; first | done | omega)) only [go_sem, b7]; (repeat with_reducible refine aI ?_)))
      refine (mcount_x (a := 0) (b := 64) (by omega) hE7 hl7 (by omega) (by omega) (by omega)).wf.mono ?_
      rintro _ T8 ⟨⟨rfl, hE8, F8⟩, hW8⟩
      have n8 := F8.next
      have hl8 := cnt_le (a := 0) (b := 64) hl7
      (simp (disch := first | decide | omega | (simp only [nx]; first | done | omega)) only [go_sem]; (repeat with_reducible refine aI ?_))
      refine (mids_x (by omega) hE8 hl8 hl (cnt_most _ _ _ _)).wf.mono ?_
      rintro _ T9 ⟨⟨rfl, hE9, F9⟩, hW9⟩
      have b9 := F9.ob q _ (by omega) (F8.ob q _ (by omega) b7)
      (simp (disch := first | decide | omega | (simp only [nx]; first | done | omega)) only [go_sem, b9]; (repeat with_reducible refine aI ?_))
      refine ⟨hW9.set (by have := hW9.lt b9; omega) _, ⟨1, _, _, _, [], .no, .full, rfl, rfl⟩, hE9.put (by omega) b9 (by decide), ((F7.rfr F8).rfr F9).set _⟩
    · have h1 : ¬ byV l x0 = 1 := fun h => by rw [h] at hb; exact absurd hb (by decide)
      rw [if_neg h1]
      (simp (disch := first | decide | omega | (simp only [nx]; first | done | omega)) only [go_sem]; (repeat with_reducible refine aI ?_))
      refine dIf_both (fun hb => ?_) (fun hb => ?_)
      · have h2 : byV l x0 = 2 := UInt8.toNat_inj.1 (by have := beq_iff_eq.1 hb; show (byV l x0).toNat = 2; omega)
        have hku : (((2 : UInt8).toNat : Nat) : Int) = 2 := rfl
        simp only [h2, hku, if_true] at b3 ⊢
        (simp (disch := first | decide | omega | (simp only [nx]; first | done | omega)) only [go_sem]; (repeat with_reducible refine aI ?_))
        refine (mcount_x (a := 1) (b := 8) (by omega) hE3 hlb (by omega) (by omega) (by omega)).wf.mono ?_
        rintro _ T8 ⟨⟨rfl, hE8, F8⟩, hW8⟩
        have n8 := F8.next
        have hl8 := cnt_le (a := 1) (b := 8) hlb
        (simp (disch := first | decide | omega | (simp only [nx]; first | done | omega)) only [go_sem]; (repeat with_reducible refine aI ?_))
        refine (mids_x (by omega) hE8 hl8 hl (Nat.le_trans (cnt_most _ _ _ _) (by omega))).wf.mono ?_
        rintro _ T9 ⟨⟨rfl, hE9, F9⟩, hW9⟩
        have b9 := F9.ob q _ (by omega) (F8.ob q _ (by omega) b3)
        (simp (disch := first | decide | omega | (simp only [nx]; first | done | omega)) only [go_sem, b9]; (repeat with_reducible refine aI ?_))
        refine ⟨hW9.set (by have := hW9.lt b9; omega) _, ⟨2, _, _, _, [], .no, .full, rfl, rfl⟩, hE9.put (by omega) b9 (by decide), (((FrM.refl k q T3).rfr F8).rfr F9).set _⟩
      · have h2 : ¬ byV l x0 = 2 := fun h => by rw [h] at hb; exact absurd hb (by decide)
        rw [if_neg h2]
        (simp (disch := first | decide | omega | (simp only [nx]; first | done | omega)) only [go_sem]; (repeat with_reducible refine aI ?_))
        refine dIf_both (fun hb => ?_) (fun hb => ?_)
        · have h3 : byV l x0 = 3 := UInt8.toNat_inj.1 (by have := beq_iff_eq.1 hb; show (byV l x0).toNat = 3; omega)
          have hku : (((3 : UInt8).toNat : Nat) : Int) = 3 := rfl
          simp only [h3, hku, if_true] at b3 ⊢
          (simp (disch := first | decide | omega | (simp only [nx]; first | done | omega)) only [go_sem]; (repeat with_reducible refine aI ?_))
          refine (mcount_x (a := 1) (b := 8) (by omega) hE3 hlb (by omega) (by omega) (by omega)).wf.mono ?_
          rintro _ T8 ⟨⟨rfl, hE8, F8⟩, hW8⟩
          have n8 := F8.next
          have hl8 := cnt_le (a := 1) (b := 8) hlb
          have hn8 := cnt_most l (byN l x0) 1 8
          have b8 := F8.ob q _ (by omega) b3
          have G8 := (FrM.refl k q T3).rfr F8
          generalize (cntR l (byN l x0) 1 8).1 = n at *
          generalize (cntR l (byN l x0) 1 8).2 = y at *
          (simp (disch := first | decide | omega | (simp only [nx]; first | done | omega)) only [go_sem]; (repeat with_reducible refine aI ?_))
          refine dloop_up (fun t => List.contains [6, 44, 45, 46, 47, 48, 49, 50, 51, 52, 53, 54, 55, 56, 57, 58, 59] t) (by kernel_rfl) (by exact hW8) n (fun i g T => i ≤ n ∧ g 44 = .v (.int .i64 ((i : Nat) : Int)) ∧ ∃ own, T.ob q = some (.box 28 (mB 3 false zF (.sl .full []) (.sl own ((esR l y i).1.map encB)))) ∧ RowE 22 (q + 1) own i T ∧ EAt k l (esR l y i).2 T ∧ FrM k q T3 T)
            ⟨by omega, by (first | (simp (disch := first | decide | omega | (simp only [nx]; first | done | omega)) only [go_sem]; first | done | rfl) | rfl), .full, b8, .inl ⟨rfl, rfl⟩, hE8, G8⟩ ?_
          rintro i g T hT hg ⟨le, q44, own2, bT, hrow, hE, G⟩
          (have q2 := hg 2 rfl; have q3 := hg 3 rfl; have q4 := hg 4 rfl; have q5 := hg 5 rfl; have q43 := hg 43 rfl; simp (disch := first | decide | omega | (simp only [nx]; first | done | omega)) only [go_sem] at q2 q3 q4 q5 q43; clear hg)
          have nG := G.next
          have hle := es_le (l := l) (x := y) hl8 i
          have hlen := es_len (l := l) (x := y) i
          by_cases hlt : i < n
          · have b1 : decide ((i : Int) < (n : Int)) = true := decide_eq_true (by omega)
            have w1 : IntKind.i64.wrap ((i : Int) + 1) = ((i + 1 : Nat) : Int) := IntWalk.i64_in _ ⟨by omega, by omega⟩
            (simp (disch := first | decide | omega | (simp only [nx]; first | done | omega)) only [go_sem, q4, q43, q44, b1]; (repeat with_reducible refine aI ?_))
            refine (bytesN_x (mx := 4096) (by unfold IsI64; omega) (by omega) hE hle (by omega)).wf.mono ?_
            rintro _ U1 ⟨⟨rfl, hE1, F1⟩, hU1⟩
            have nU := F1.next
            have bU := F1.ob q _ (by omega) bT
            have hr1 := hrow.keep fun gr g1 g3 => F1.ob gr _ (by omega) g3
            have G1 := G.rfr F1
            have e4 : (4096 : Int).toNat = 4096 := rfl
            rw [e4] at hE1 ⊢
            obtain ⟨X, hX⟩ : ∃ X, X = bsV l (esR l y i).2 4096 := ⟨_, rfl⟩
            have e5 : esR l y (i + 1) = ((esR l y i).1 ++ [X], if X.length = 0 then nxt (bsN l (esR l y i).2 4096) (.error 2) else bsN l (esR l y i).2 4096) := by rw [esR, hX]
            have hlist : (esR l y i).1.map encB ++ [encB X] = ((esR l y i).1 ++ [X]).map encB := by simp
            rw [← hX]
            have ce : encB X = .sl .no (X.map bD) := rfl
            by_cases h0 : X.length = 0
            · have c1 : ((X.length : Int) == 0) = true := beq_iff_eq.2 (by omega)
              rw [if_pos h0] at e5
              (simp (disch := first | decide | omega | (simp only [nx]; first | done | omega)) only [go_sem, q4, ce, c1]; (repeat with_reducible refine aI ?_))
              refine (fail_x 2 hE1).wf.mono ?_
              rintro _ U2 ⟨⟨rfl, hE2', F2'⟩, hU2⟩
              have nU2 := F2'.next
              have bU2 := F2'.ob q _ (by omega) bU
              have hr2 := hr1.keep fun gr g1 g3 => F2'.ob gr _ (by omega) g3
              have G2 := G1.rfr F2'
              (simp (disch := first | decide | omega | (simp only [nx]; first | done | omega)) only [go_sem, q4, q5, bU2]; (repeat with_reducible refine aI ?_))
              refine dapp_es (own := own2) (es := (esR l y i).1.map encB) (o := encB X) (hr2.len (by rw [List.length_map, hlen])) (by rw [List.length_map]; omega) (fun d hd => by obtain ⟨b, _, rfl⟩ := List.mem_map.1 hd; rfl) (by rfl) ?_
              rw [List.length_map, hlen, hlist]
              have gb := grow_box (n := i + 1) hU2 hr2 bU2
              have gE := hE2'.boxes (T := U2.grow own2 22 (i + 1)) fun j t cs e => grow_box hU2 hr2 e
              have gr := RowE.grow (e := 22) (lo := q + 1) (n := i) (m := i + 1) (own := own2) (T := U2) (by omega)
              have gG : FrM k q T3 (U2.grow own2 22 (i + 1)) := ⟨by rw [grow_next]; have := G2.next; omega, fun j o hj1 hj2 e => by have := hW3.lt e; exact hr2.low hU2 (by omega) (G2.ob j o hj1 hj2 e)⟩
              have gW := hU2.grow own2 22 (i + 1)
              have gn : (U2.grow own2 22 (i + 1)).next = U2.next + 1 := grow_next _ _ _ _
              revert gb gE gr gG gW gn
              generalize U2.grow own2 22 (i + 1) = V
              intro gb gE gr gG gW gn
              (simp (disch := first | decide | omega | (simp only [nx]; first | done | omega)) only [go_sem, q5, gb]; (repeat with_reducible refine aI ?_))
              have sE := gE.put (cs' := mB 3 false zF (.sl .full []) (.sl (.row U2.next) (((esR l y i).1 ++ [X]).map encB))) (by omega) gb (by decide)
              (simp (disch := first | decide | omega | (simp only [nx]; first | done | omega)) only [go_sem, q44, w1]; (repeat with_reducible refine aI ?_))
              refine ⟨by omega, (V.set q (.box 28 (mB 3 false zF (.sl .full []) (.sl (.row U2.next) (((esR l y i).1 ++ [X]).map encB))))).ob, fun _ _ h => h, by omega, by (first | (simp (disch := first | decide | omega | (simp only [nx]; first | done | omega)) only [go_sem, w1]; first | done | rfl) | rfl), .row U2.next, ?_, ?_, ?_, ?_⟩
              · rw [e5]; exact set_eq
              · exact gr.keep fun gr1 g1 g3 => by rw [set_ne (by omega)]; exact g3
              · rw [e5]; exact sE
              · exact gG.set _
            · have c1 : ((X.length : Int) == 0) = false := beq_eq_false_iff_ne.2 (by omega)
              rw [if_neg h0] at e5
              (simp (disch := first | decide | omega | (simp only [nx]; first | done | omega)) only [go_sem, q4, q5, ce, c1, bU]; (repeat with_reducible refine aI ?_))
              refine dapp_es (own := own2) (es := (esR l y i).1.map encB) (o := encB X) (hr1.len (by rw [List.length_map, hlen])) (by rw [List.length_map]; omega) (fun d hd => by obtain ⟨b, _, rfl⟩ := List.mem_map.1 hd; rfl) (by rfl) ?_
              rw [List.length_map, hlen, hlist]
              have gb := grow_box (n := i + 1) hU1 hr1 bU
              have gE := hE1.boxes (T := U1.grow own2 22 (i + 1)) fun j t cs e => grow_box hU1 hr1 e
              have gr := RowE.grow (e := 22) (lo := q + 1) (n := i) (m := i + 1) (own := own2) (T := U1) (by omega)
              have gG : FrM k q T3 (U1.grow own2 22 (i + 1)) := ⟨by rw [grow_next]; have := G1.next; omega, fun j o hj1 hj2 e => by have := hW3.lt e; exact hr1.low hU1 (by omega) (G1.ob j o hj1 hj2 e)⟩
              have gW := hU1.grow own2 22 (i + 1)
              have gn : (U1.grow own2 22 (i + 1)).next = U1.next + 1 := grow_next _ _ _ _
              revert gb gE gr gG gW gn
              generalize U1.grow own2 22 (i + 1) = V
              intro gb gE gr gG gW gn
              (simp (disch := first | decide | omega | (simp only [nx]; first | done | omega)) only [go_sem, q5, gb]; (repeat with_reducible refine aI ?_))
              have sE := gE.put (cs' := mB 3 false zF (.sl .full []) (.sl (.row U1.next) (((esR l y i).1 ++ [X]).map encB))) (by omega) gb (by decide)
              (simp (disch := first | decide | omega | (simp only [nx]; first | done | omega)) only [go_sem, q44, w1]; (repeat with_reducible refine aI ?_))
              refine ⟨by omega, (V.set q (.box 28 (mB 3 false zF (.sl .full []) (.sl (.row U1.next) (((esR l y i).1 ++ [X]).map encB))))).ob, fun _ _ h => h, by omega, by (first | (simp (disch := first | decide | omega | (simp only [nx]; first | done | omega)) only [go_sem, w1]; first | done | rfl) | rfl), .row U1.next, ?_, ?_, ?_, ?_⟩
              · rw [e5]; exact set_eq
              · exact gr.keep fun gr1 g1 g3 => by rw [set_ne (by omega)]; exact g3
              · rw [e5]; exact sE
              · exact gG.set _
          · have b1 : decide ((i : Int) < (n : Int)) = false := decide_eq_false (by omega)
            obtain rfl : i = n := by omega
            (simp (disch := first | decide | omega | (simp only [nx]; first | done | omega)) only [go_sem, q2, q4, q5, q43, q44, b1]; (repeat with_reducible refine aI ?_))
            exact ⟨⟨3, _, _, [], _, .full, own2, bT, rfl⟩, hE, G⟩
        · have h3 : ¬ byV l x0 = 3 := fun h => by rw [h] at hb; exact absurd hb (by decide)
          rw [if_neg h3]
          (simp (disch := first | decide | omega | (simp only [nx]; first | done | omega)) only [go_sem]; (repeat with_reducible refine aI ?_))
          refine (fail_x 5 hE3).wf.mono ?_
          rintro _ T8 ⟨⟨rfl, hE8, F8⟩, hW8⟩
          (simp (disch := first | decide | omega | (simp only [nx]; first | done | omega)) only [go_sem]; (repeat with_reducible refine aI ?_))
          exact ⟨⟨_, _, _, [], [], .full, .full, F8.ob q _ (by omega) b3, rfl⟩, hE8, (FrM.refl k q T3).rfr F8⟩
  · rintro f' T8 ⟨f2, f4, f5, hW8, ⟨n, r, f, ids, es, o, o2, b8, hm⟩, hE8, G8⟩
    (simp (disch := first | decide | omega | (simp only [nx]; first | done | omega)) only [go_sem, f2, f4, f5]; (repeat with_reducible refine aI ?_))
    refine (end_x hE8 (decM_le l)).wf.mono ?_
    rintro er T9 ⟨⟨he, F9⟩, hW9⟩
    have n8 := G8.next
    have n9 := F9.next
    have b9 := F9.ob q _ (by omega) b8
    have z9 := F9.ob S.next _ (by omega) (G8.ob S.next _ (by omega) (by omega) z3)
    have fin : ∀ cs, S.next ≤ (T9.set S.next (.box 28 cs)).next ∧ ∀ j o, S.ob j = some o → (T9.set S.next (.box 28 cs)).ob j = some o := fun cs => ⟨by show S.next ≤ T9.next; omega, fun j o e => by
      have := hS.lt e
      rw [set_ne (by omega)]
      exact F9.ob j o (by omega) (G8.ob j o (by omega) (by omega) (hF3 j o this e))⟩
    have hes : ∀ cs, ErrAt k (endX l (decM l).2).2.1 (endX l (decM l).2).2.2 (T9.set S.next (.box 28 cs)) er := fun cs => by
      rcases he with he | ⟨he, eb, hb1, hb2, hb3⟩
      · exact .inl he
      · refine .inr ⟨he, eb, hb1, hb2, ?_⟩
        rw [set_ne ?_]; exact hb3
        rintro rfl
        rw [z9] at hb3
        injection hb3 with hb3
        injection hb3 with hb3 _
        exact absurd hb3 (by decide)
    by_cases hc : (endX l (decM l).2).2.1 = 0
    · have hen : er = .v .nilIface := by
        rcases he with ⟨_, h⟩ | ⟨h, _⟩
        · exact h
        · exact absurd hc h
      rw [if_pos hc]
      subst hen
      (simp (disch := first | decide | omega | (simp only [nx]; first | done | omega)) only [go_sem, f2, f5, b9, z9]; (repeat with_reducible refine aI ?_))
      exact ⟨k, _, _, rfl, by rw [mB_frz, hm], by omega, hes _, fin _⟩
    · obtain ⟨eb, hen⟩ : ∃ eb, er = atD eb := by
        rcases he with ⟨h, _⟩ | ⟨_, eb, _, h, _⟩
        · exact absurd h hc
        · exact ⟨eb, h⟩
      rw [if_neg hc]
      subst hen
      unfold atD
      (simp (disch := first | decide | omega | (simp only [nx]; first | done | omega)) only [go_sem, f2, f5, b9, z9]; (repeat with_reducible refine aI ?_))
      exact ⟨k, _, _, rfl, by rw [mB_z]; exact mB_frz 0 false zF [] [] .full .full, by omega, hes _, fin _⟩
end
end Go.Proofs.YtonncfminojejaaGreatDoor

namespace Go.Proofs.YtonncfminojejaaGreatDoor
open Go.RowKit
theorem nuV_er {l : List UInt8} {x : Rst} {m : Nat} (h : (nuN l x m).2.1 ≠ 0) : nuV l x m = 0 := by
  unfold nuV
  split
  · rename_i h0
    unfold nuN nuE at h
    cases hN : numP (l.drop x.1) with
    | none => rfl
    | some r =>
      obtain ⟨n, s⟩ := r
      rw [hN] at h
      simp only at h ⊢
      split
      · rfl
      · rename_i hm
        rw [if_neg hm] at h
        simp only [nxt, if_pos h0] at h
        exact absurd h0 h
  · rfl
theorem put_row {hd tl Z R : List D} {i : Nat} (hi : i < R.length) (hz : R.length ≤ Z.length) : (hd ++ R.take i ++ Z.drop i ++ tl).take (hd.length + i) ++ [R[i]] ++ (hd ++ R.take i ++ Z.drop i ++ tl).drop (hd.length + i + 1) = hd ++ R.take (i + 1) ++ Z.drop (i + 1) ++ tl := by
  have hl : (hd ++ R.take i).length = hd.length + i := by rw [List.length_append, List.length_take]; omega
  rw [List.append_assoc (hd ++ R.take i), ← hl, List.take_left, ← List.drop_drop, List.drop_left, List.drop_append_of_le_length (by rw [List.length_drop]; omega), List.drop_drop, List.take_succ_eq_append_getElem hi]
  simp only [List.append_assoc]
theorem put_h {R : List UInt8} {Z : List D} {i : Nat} (hi : i < R.length) (hz : R.length ≤ Z.length) : ((R.map bD).take i ++ Z.drop i).take i ++ [bD R[i]] ++ ((R.map bD).take i ++ Z.drop i).drop (i + 1) = (R.map bD).take (i + 1) ++ Z.drop (i + 1) := by
  have := put_row (hd := []) (tl := []) (Z := Z) (R := R.map bD) (i := i) (by rw [List.length_map]; exact hi) (by rw [List.length_map]; exact hz)
  simp only [List.nil_append, List.append_nil, List.length_nil, Nat.zero_add, List.getElem_map] at this
  exact this
theorem cells_bD (b : UInt8) : (bD b).cells = [bD b] := rfl
theorem h_done (l : List UInt8) (x : Rst) : ((rwV l x 32).map bD).take ((rwV l x 32).length) ++ (zH.1.map bD).drop ((rwV l x 32).length) = (hV l x).1.map bD := by
  have := hV_copy l x
  rw [Nat.zero_add, List.take_zero] at this
  rw [List.take_of_length_le (by rw [List.length_map]; exact Nat.le_refl _)]
  exact this
section
set_option maxRecDepth 200000
set_option maxHeartbeats 8000000
theorem bytesN_q {S : St} {q : Nat} {own : Own} {l : List UInt8} {x : Rst} {mx : Int} (hm : IsI64 mx) (hq : S.ob q = some (qB own l x)) (hi : x.1 ≤ l.length) (hl : l.length ≤ 1048576) :
    DCalls Tryz.prog 33 [.loc q 0, .v (.int .i64 mx)] S fun d T => d = encB (bsV l x mx.toNat) ∧ T.ob q = some (qB own l (nxt x (bsE (l.drop x.1) mx.toNat))) ∧ RFr q S T :=
  DCalls.frz (bytes_q hm hq hi hl) fun d T ⟨⟨o, h1⟩, h2⟩ => ⟨by rw [h1]; simp only [D.frz, frz_bDs, encB], h2⟩
theorem rawN_q {S : St} {q : Nat} {own : Own} {l : List UInt8} {x : Rst} {mx : Int} (hm : IsI64 mx) (hq : S.ob q = some (qB own l x)) (hi : x.1 ≤ l.length) (hl : l.length ≤ 1048576) :
    DCalls Tryz.prog 31 [.loc q 0, .v (.int .i64 mx)] S fun d T => d = .sl .no ((rwV l x mx.toNat).map bD) ∧ T.ob q = some (qB own l (nxt x (rwE (l.drop x.1) mx.toNat))) ∧ RFr q S T :=
  DCalls.frz (raw_q hm hq hi hl) fun d T ⟨⟨o, h1⟩, h2⟩ => ⟨by rw [h1]; simp only [D.frz, frz_bDs], h2⟩
theorem rcount_q {S : St} {q : Nat} {own : Own} {l : List UInt8} {x : Rst} {b : Nat} (hq : S.ob q = some (qB own l x)) (hi : x.1 ≤ l.length) (hl : l.length ≤ 1048576) (hb : b < 1000) :
    DCalls Tryz.prog 32 [.loc q 0, .v (.int .i64 (b : Int))] S fun d T => d = .v (.int .i64 ((cntR l x 0 b).1 : Int)) ∧ T.ob q = some (qB own l (cntR l x 0 b).2) ∧ RFr q S T := by
  refine dcalls_inline mixed Tryz.func32 rfl (fun _ _ => by kernel_rfl) (rs := [.tmp 4]) rfl (by kernel_rfl) (fun hS => ?_)
  have wb : IntKind.u64.wrap (b : Int) = (b : Int) := wrap_u64 _ (by unfold IsU64; omega)
  (simp (disch := first | decide | omega | (simp only [nx]; first | done | omega)) only [go_sem]; (repeat with_reducible refine aI ?_))
  refine (number_q (m := 18446744073709551615) hq hi hl).mono ?_
  rintro _ T ⟨rfl, h1, F1⟩
  unfold cntR
  by_cases h2 : b < nuV l x MU
  · have b1 : decide ((b : Int) < ((nuV l x MU : Nat) : Int)) = true := decide_eq_true (by omega)
    have hc : ¬ (nuN l x MU).2.1 ≠ 0 := fun h => by rw [nuV_er h] at h2; omega
    rw [if_neg hc, if_pos h2]
    (simp (disch := first | decide | omega | (simp only [nx]; first | done | omega)) only [go_sem, cv_i64u64, wb, b1]; (repeat with_reducible refine aI ?_))
    refine (fail_q 3 h1).mono ?_
    rintro _ T2 ⟨rfl, h3, F2⟩
    (simp (disch := first | decide | omega | (simp only [nx]; first | done | omega)) only [go_sem]; (repeat with_reducible refine aI ?_))
    exact ⟨h3, F1.trans F2⟩
  · have b1 : decide ((b : Int) < ((nuV l x MU : Nat) : Int)) = false := decide_eq_false (by omega)
    have w : IntKind.i64.wrap ((nuV l x MU : Nat) : Int) = ((nuV l x MU : Nat) : Int) := IntWalk.i64_in _ ⟨by omega, by omega⟩
    by_cases hc : (nuN l x MU).2.1 ≠ 0
    · rw [if_pos hc]
      have h0 := nuV_er hc
      (simp (disch := first | decide | omega | (simp only [nx]; first | done | omega)) only [go_sem, cv_i64u64, cv_u64i64, wb, b1, w]; (repeat with_reducible refine aI ?_))
      first | exact ⟨by rw [h0]; rfl, h1, F1⟩ | exact ⟨by rw [h0]; rfl, F1⟩ | exact F1
    · rw [if_neg hc, if_neg h2, if_neg (Nat.not_lt_zero _)]
      (simp (disch := first | decide | omega | (simp only [nx]; first | done | omega)) only [go_sem, cv_i64u64, cv_u64i64, wb, b1, w]; (repeat with_reducible refine aI ?_))
      first | exact ⟨h1, F1⟩ | exact F1
theorem rhash_q {S : St} {q : Nat} {own : Own} {l : List UInt8} {x : Rst} (hq : S.ob q = some (qB own l x)) (hi : x.1 ≤ l.length) (hl : l.length ≤ 1048576) :
    DCalls Tryz.prog 34 [.loc q 0] S fun d T => d = encH (hV l x) ∧ T.ob q = some (qB own l (rwN l x 32)) ∧ RFr q S T := by
  refine dcalls_inline mixed Tryz.func34 rfl (fun _ _ => by kernel_rfl) (rs := [.cell 2 45]) rfl (by kernel_rfl) (fun hS => ?_)
  have hqn := hS.lt hq
  (simp (disch := first | decide | omega | (simp only [nx]; first | done | omega)) only [go_sem]; (repeat with_reducible refine aI ?_))
  rw [zH_eq]
  obtain ⟨T1, hT1⟩ : ∃ T1 : St, T1 = (S.add (.box 45 (zH.1.map bD))).add (.box 45 (zH.1.map bD)) := ⟨_, rfl⟩
  have hW1 : T1.WF := by rw [hT1]; exact (hS.add _).add _
  have n1 : T1.next = S.next + 2 := by rw [hT1]; rfl
  have k1 : ∀ j o, S.ob j = some o → T1.ob j = some o := fun j o e => by have := hS.lt e; rw [hT1, add_ne (by show j < S.next + 1; omega), add_ne this, e]
  have b0 : T1.ob S.next = some (.box 45 (zH.1.map bD)) := by rw [hT1, add_ne (by show S.next < S.next + 1; omega)]; exact add_eq
  have b1 : T1.ob (S.next + 1) = some (.box 45 (zH.1.map bD)) := by rw [hT1]; exact add_eq (S := S.add _)
  rw [← hT1]
  clear hT1
  refine (rawN_q (mx := 32) (by unfold IsI64; omega) (k1 _ _ hq) hi hl).wf.mono ?_
  rintro _ T2 ⟨⟨rfl, hq2, F2⟩, hW2⟩
  have n2 := F2.next
  have c0 := F2.ob S.next _ (by omega) b0
  have c1 := F2.ob (S.next + 1) _ (by omega) b1
  have hk2 : RFr q S T2 := ⟨by omega, fun j o hj e => F2.ob j o hj (k1 j o e)⟩
  have hrl : (rwV l x 32).length ≤ 32 := by
    rcases rwV_two l x 32 with h | h
    · rw [h]; simp
    · omega
  have e32 : (32 : Int).toNat = 32 := rfl
  rw [e32] at hq2 ⊢
  have hd := h_done l x
  generalize rwV l x 32 = R at *
  (simp (disch := first | decide | omega | (simp only [nx]; first | done | omega)) only [go_sem]; (repeat with_reducible refine aI ?_))
  refine dloop_up (fun t => List.contains [5, 8, 9, 10, 11, 12, 13, 14, 15, 16, 17, 18, 19] t) (by kernel_rfl) (by exact hW2) R.length (fun i g T => i ≤ R.length ∧ g 5 = .v (.int .i64 ((i : Nat) : Int)) ∧ T.next = T2.next ∧ T.ob (S.next + 1) = some (.box 45 ((R.map bD).take i ++ (zH.1.map bD).drop i)) ∧ ∀ j, j ≠ S.next + 1 → T.ob j = T2.ob j)
    ⟨by omega, by (first | (simp (disch := first | decide | omega | (simp only [nx]; first | done | omega)) only [go_sem]; first | done | rfl) | rfl), rfl, by rw [c1]; simp, fun _ _ => rfl⟩ ?_
  rintro i g T hT hg ⟨le, q5, nT, bT, hk⟩
  (have q2 := hg 2 rfl; have q3 := hg 3 rfl; have q4 := hg 4 rfl; simp (disch := first | decide | omega | (simp only [nx]; first | done | omega)) only [go_sem] at q2 q3 q4; clear hg)
  by_cases hlt : i < R.length
  · have d1 : decide ((i : Int) < (R.length : Int)) = true := decide_eq_true (by omega)
    have w1 : IntKind.i64.wrap ((i : Int) + 1) = ((i + 1 : Nat) : Int) := IntWalk.i64_in _ ⟨by omega, by omega⟩
    have hgd := getD_map bD R i hlt
    have hp := put_h (Z := zH.1.map bD) hlt (by simp [zH]; omega)
    (simp (disch := first | decide | omega | (simp only [nx]; first | done | omega)) only [go_sem, q3, q4, q5, d1, hgd, hlt, bT, cells_bD, List.getD_cons_zero, List.length_singleton, Nat.mul_one, hp, w1]; (repeat with_reducible refine aI ?_))
    refine ⟨rfl, by simp only [List.length_append, List.length_take, List.length_drop, List.length_map, zH, List.length_replicate]; omega, ?_⟩
    refine ⟨by omega, (T.set (S.next + 1) (.box 45 ((R.map bD).take (i + 1) ++ (zH.1.map bD).drop (i + 1)))).ob, fun _ _ h => h, by omega, by (first | (simp (disch := first | decide | omega | (simp only [nx]; first | done | omega)) only [go_sem, w1]; first | done | rfl) | rfl), nT, set_eq, fun j hj => by rw [set_ne hj]; exact hk j hj⟩
  · have d1 : decide ((i : Int) < (R.length : Int)) = false := decide_eq_false (by omega)
    obtain rfl : i = R.length := by omega
    rw [hd] at bT
    have aT := (hk S.next (by omega)).trans c0
    have hlh := (hV l x).2
    (simp (disch := first | decide | omega | (simp only [nx]; first | done | omega)) only [go_sem, q2, q3, q4, q5, d1, bT, aT, hlh]; (repeat with_reducible refine aI ?_))
    have hdz : (zH.1.map bD).drop 32 = [] := List.drop_eq_nil_of_le (by simp [zH])
    rw [hdz, List.append_nil]
    refine ⟨by simp [zH], Nat.le_of_eq (len_encH _).symm, by rw [take_hash]; rfl, ?_, ⟨by show S.next ≤ T.next; omega, fun j o hj e => ?_⟩⟩
    · rw [hk q (by omega)]; exact hq2
    · have := hS.lt e
      rw [set_ne (by omega), hk j (by omega)]
      exact hk2.ob j o hj e
end
end Go.Proofs.YtonncfminojejaaGreatDoor
