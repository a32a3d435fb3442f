/- Texts of a proof, part 8. Conditions: none. -/
import Derived.Test.YtjjhjhjphhpeiaaGreatDoorD7
set_option linter.unusedVariables false
set_option linter.unusedSimpArgs false
namespace Go.Proofs.YtjjhjhjphhpeiaaGreatDoor
open Go.RowKit
set_option linter.unusedSimpArgs false
set_option linter.unusedVariables false
theorem grow_hit {S : St} {own : Own} {e : TypeId} {n : Nat} : (S.grow own e n).ob S.next = some (.row e n) := by
  cases own <;> simp [St.grow, St.leave, St.add, St.drop]
theorem grow_skip {S : St} {own : Own} {e : TypeId} {n j : Nat} (h1 : j ≠ S.next) (h2 : ∀ g, own = .row g → j ≠ g) : (S.grow own e n).ob j = S.ob j := by
  cases own with
  | row g => simp [St.grow, St.leave, St.add, St.drop, h1, h2 g rfl]
  | no => simp [St.grow, St.leave, St.add, h1]
  | full => simp [St.grow, St.leave, St.add, h1]
/-- A slice's own row, from lo on. -/
def RowAt (lo : Nat) (own : Own) (n : Nat) (e : TypeId) (T : St) : Prop := (own = .full ∧ n = 0) ∨ ∃ g, own = .row g ∧ lo ≤ g ∧ T.ob g = some (.row e n)
theorem RowAt.ne {lo n j : Nat} {own : Own} {e : TypeId} {T : St} (h : RowAt lo own n e T) (hj : j < lo ∨ ∃ t cs, T.ob j = some (.box t cs)) : ∀ g, own = .row g → j ≠ g := fun g hg => by
  rcases h with ⟨h, _⟩ | ⟨g', h, h1, h2⟩
  · rw [h] at hg; cases hg
  · rw [h] at hg; injection hg with hg; subst hg
    rintro rfl
    rcases hj with hj | ⟨t, cs, hj⟩
    · omega
    · rw [hj] at h2; cases h2
theorem RowAt.lt {lo n : Nat} {own : Own} {e : TypeId} {T : St} (hT : T.WF) (h : RowAt lo own n e T) : ∀ g, own = .row g → g < T.next := fun g hg => by
  rcases h with ⟨h, _⟩ | ⟨g', h, h1, h2⟩
  · rw [h] at hg; cases hg
  · rw [h] at hg; injection hg with hg; subst hg
    exact hT.lt h2
theorem RowAt.keep {lo n : Nat} {own : Own} {e : TypeId} {T X : St} (h : RowAt lo own n e T) (hb : ∀ g, own = .row g → X.ob g = T.ob g) : RowAt lo own n e X := by
  rcases h with h | ⟨g, h, h1, h2⟩
  · exact .inl h
  · exact .inr ⟨g, h, h1, (hb g h).trans h2⟩
theorem dapp_at {P : Program} {S : St} {t ty e : TypeId} {own own2 : Own} {es : List D} {x : D} {lo : Nat} {K : D → St → Prop} (he : elT P t = some e) (hz : zeroT P e = true) (h : RowAt lo own es.length e S) (hw : ∀ d ∈ es, d.width = szOf P e) (hx : x.width = szOf P e)
    (hb : es.length + 1 ≤ 140737488355328) (hb2 : (es.length + 1) * bytesOf P e ≤ 140737488355328) (k : K (.sl (.row S.next) (es ++ [x])) (S.grow own e (es.length + 1))) : dapp P S t t ty (.sl own es) (.sl own2 [x]) K := by
  refine dapp_row ?_
  simp only [dappend, he, hz, true_and, Option.isSome_some, List.length_cons, List.length_nil]
  refine ⟨hw, fun d hd => by rw [List.mem_singleton] at hd; subst hd; exact hx, ?_, hb, hb2, k⟩
  rcases h with ⟨rfl, h⟩ | ⟨g, rfl, _, h⟩
  · trivial
  · exact h
/-- In T the variable o holds two slices of rows of their own. -/
structure Two (o lo : Nat) (e1 e2 : TypeId) (f : D → D → List D) (L1 L2 : List D) (o1 o2 : Own) (T : St) : Prop where
  box : T.ob o = some (.box 29 (f (.sl o1 L1) (.sl o2 L2)))
  r1 : RowAt lo o1 L1.length e1 T
  r2 : RowAt lo o2 L2.length e2 T
theorem Two.apart {o lo : Nat} {e1 e2 : TypeId} {f : D → D → List D} {L1 L2 : List D} {o1 o2 : Own} {T : St} (h : Two o lo e1 e2 f L1 L2 o1 o2 T) (hne : e1 ≠ e2) : ∀ g g', o1 = .row g → o2 = .row g' → g ≠ g' := fun g g' h1 h2 e => by
  subst e
  rcases h.r1 with ⟨e1', _⟩ | ⟨a, e1', _, e3⟩
  · rw [e1'] at h1; cases h1
  · rw [e1'] at h1; injection h1 with h1; subst h1
    rcases h.r2 with ⟨f1, _⟩ | ⟨b, f1, _, f3⟩
    · rw [f1] at h2; cases h2
    · rw [f1] at h2; injection h2 with h2; subst h2
      rw [e3] at f3
      injection f3 with f3
      injection f3 with f3 _
      exact hne f3
theorem Two.at1 {o lo : Nat} {e1 e2 : TypeId} {f : D → D → List D} {L1 L2 : List D} {o1 o2 : Own} {T : St} (h : Two o lo e1 e2 f L1 L2 o1 o2 T) (hT : T.WF) {j m : Nat} {ob : Ob} (hj : j < lo) (e : T.ob j = some ob) : (T.grow o1 e1 m).ob j = some ob := by
  have := hT.lt e
  rw [grow_skip (by omega) (h.r1.ne (.inl hj)), e]
theorem Two.at2 {o lo : Nat} {e1 e2 : TypeId} {f : D → D → List D} {L1 L2 : List D} {o1 o2 : Own} {T : St} (h : Two o lo e1 e2 f L1 L2 o1 o2 T) (hT : T.WF) {j m m2 : Nat} {ob : Ob} (hj : j < lo) (e : T.ob j = some ob) : ((T.grow o1 e1 m).grow o2 e2 m2).ob j = some ob := by
  have := hT.lt e
  rw [grow_skip (by rw [grow_next]; omega) (h.r2.ne (.inl hj)), h.at1 hT hj e]
theorem Two.row2 {o lo : Nat} {e1 e2 : TypeId} {f : D → D → List D} {L1 L2 : List D} {o1 o2 : Own} {T : St} (h : Two o lo e1 e2 f L1 L2 o1 o2 T) (hT : T.WF) (hne : e1 ≠ e2) {m : Nat} : RowAt lo o2 L2.length e2 (T.grow o1 e1 m) :=
  h.r2.keep fun g hg => by
    have := h.r2.lt hT g hg
    exact grow_skip (by omega) fun g' hg' e => h.apart hne g' g hg' hg e.symm
/-- What the two appends and the two stores leave. -/
theorem two_step {o lo : Nat} {e1 e2 : TypeId} {f : D → D → List D} {L1 L2 L1' L2' : List D} {o1 o2 : Own} {T : St} {B : Ob} {m1 m2 : Nat} (h : Two o lo e1 e2 f L1 L2 o1 o2 T) (hT : T.WF) (hlo : lo ≤ T.next) (hne : e1 ≠ e2) (hm1 : m1 = L1'.length) (hm2 : m2 = L2'.length) :
    Two o lo e1 e2 f L1' L2' (.row T.next) (.row (T.next + 1)) ((((T.grow o1 e1 m1).grow o2 e2 m2).set o B).set o (.box 29 (f (.sl (.row T.next) L1') (.sl (.row (T.next + 1)) L2')))) ∧
    Fz (fun j => j ≠ o ∧ j < lo) T ((((T.grow o1 e1 m1).grow o2 e2 m2).set o B).set o (.box 29 (f (.sl (.row T.next) L1') (.sl (.row (T.next + 1)) L2')))) ∧
    ((((T.grow o1 e1 m1).grow o2 e2 m2).set o B).set o (.box 29 (f (.sl (.row T.next) L1') (.sl (.row (T.next + 1)) L2')))).WF ∧
    ((((T.grow o1 e1 m1).grow o2 e2 m2).set o B).set o (.box 29 (f (.sl (.row T.next) L1') (.sl (.row (T.next + 1)) L2')))).next = T.next + 2 := by
  subst hm1 hm2
  have hol := hT.lt h.box
  have hn1 : (T.grow o1 e1 L1'.length).next = T.next + 1 := grow_next _ _ _ _
  have hn2 : ((T.grow o1 e1 L1'.length).grow o2 e2 L2'.length).next = T.next + 2 := by rw [grow_next, hn1]
  have ho2 : ∀ g, o2 = .row g → T.next ≠ g := fun g hg => by have := h.r2.lt hT g hg; omega
  refine ⟨⟨by simp [St.set], .inr ⟨T.next, rfl, hlo, ?_⟩, .inr ⟨T.next + 1, rfl, by omega, ?_⟩⟩, ⟨?_, fun j o' hj e => ?_⟩, ?_, hn2⟩
  · simp only [St.set]
    rw [if_neg (by omega), if_neg (by omega), grow_skip (by rw [hn1]; omega) ho2, grow_hit]
  · simp only [St.set]
    rw [if_neg (by omega), if_neg (by omega), ← hn1, grow_hit]
  · show T.next ≤ ((T.grow o1 e1 L1'.length).grow o2 e2 L2'.length).next
    omega
  · have := hT.lt e
    simp only [St.set]
    rw [if_neg hj.1, if_neg hj.1, grow_skip (by rw [hn1]; omega) (h.r2.ne (.inl hj.2)), grow_skip (by omega) (h.r1.ne (.inl hj.2)), e]
  · exact ((((hT.grow _ _ _).grow _ _ _).set (by rw [hn2]; omega) _).set (by show o < ((T.grow o1 e1 L1'.length).grow o2 e2 L2'.length).next; rw [hn2]; omega) _)
/-- A list with x at a place, behind so many rounds. -/
def insAt {α : Type} (l : List α) (x : α) (k i : Nat) : List α := if k < i then l.take k ++ [x] ++ (l.take i).drop k else l.take i
theorem insAt_zero {α : Type} (l : List α) (x : α) (k : Nat) : insAt l x k 0 = [] := by unfold insAt; rw [if_neg (by omega)]; simp
theorem insAt_len {α : Type} (l : List α) (x : α) (k i : Nat) : (insAt l x k i).length ≤ l.length + 1 := by
  unfold insAt
  split
  · simp only [List.length_append, List.length_take, List.length_drop, List.length_cons, List.length_nil]; omega
  · simp only [List.length_take]; omega
theorem insAt_lt {α : Type} {l : List α} {x : α} {k i : Nat} (h : i ≠ k) (hi : i < l.length) : insAt l x k (i + 1) = insAt l x k i ++ [l[i]] := by
  unfold insAt
  by_cases hk : k < i
  · rw [if_pos (by omega), if_pos hk, List.take_succ_eq_append_getElem hi, List.drop_append_of_le_length (by rw [List.length_take]; omega)]
    simp only [List.append_assoc]
  · rw [if_neg (by omega), if_neg hk, List.take_succ_eq_append_getElem hi]
theorem insAt_past {α : Type} {l : List α} {x : α} {k : Nat} (h : k < l.length) : insAt l x k (l.length + 1) = insAt l x k l.length := by
  unfold insAt
  have e : l.take (l.length + 1) = l := List.take_of_length_le (by omega)
  rw [if_pos (by omega), if_pos h, e, List.take_length]
/-- The first half of the round at the place. -/
theorem insAt_at {α : Type} {l : List α} {x : α} {k : Nat} (h : k ≤ l.length) : insAt l x k k ++ [x] = l.take k ++ [x] := by unfold insAt; rw [if_neg (by omega)]
theorem insAt_at2 {α : Type} {l : List α} {x : α} {k : Nat} (h : k < l.length) : insAt l x k (k + 1) = insAt l x k k ++ [x] ++ [l[k]] := by
  unfold insAt
  rw [if_pos (by omega), if_neg (by omega), List.take_succ_eq_append_getElem h, List.drop_append_of_le_length (by rw [List.length_take]; omega), List.drop_of_length_le (by rw [List.length_take]; omega), List.nil_append]
theorem insAt_end {α : Type} {l : List α} {x : α} {k : Nat} (h : k ≤ l.length) : insAt l x k (l.length + 1) = l.take k ++ [x] ++ l.drop k := by
  unfold insAt
  have e : l.take (l.length + 1) = l := List.take_of_length_le (by omega)
  rw [if_pos (by omega), e]
theorem insAt_at3 {α : Type} {l : List α} {x : α} : insAt l x l.length (l.length + 1) = insAt l x l.length l.length ++ [x] := by
  have e : l.take (l.length + 1) = l := List.take_of_length_le (by omega)
  unfold insAt
  rw [if_pos (by omega), if_neg (by omega), e, List.take_length, List.drop_of_length_le (Nat.le_refl _), List.append_nil]
end Go.Proofs.YtjjhjhjphhpeiaaGreatDoor

namespace Go.Proofs.YtjjhjhjphhpeiaaGreatDoor
open Go.RowKit
set_option linter.unusedSimpArgs false
set_option linter.unusedVariables false
theorem withParts_same (v : DVal) : v.withParts v.parts = v := by cases v; rfl
theorem chV_none (f : DVal → DVal) : ∀ (ps : List DStp) {v : DVal}, getV ps v = none → chV f ps v = v
  | [], v, h => by cases h
  | p :: ps, v, h => by
    rw [getV_cons] at h
    rw [chV]
    split
    · rename_i hin
      rw [if_pos hin] at h
      have hpl : plN v p < v.parts.length := by have := hin.1; have := hin.2; unfold plN; omega
      rw [chV_none f ps h, getD_at hpl, List.set_getElem_self, withParts_same]
    · rfl
theorem dapp_more {P : Program} {S : St} {t ty e : TypeId} {own own2 : Own} {es es2 : List D} {K : D → St → Prop} (he : elT P t = some e) (hz : zeroT P e = true) (h : own = .full ∨ ∃ g, own = .row g ∧ S.ob g = some (.row e es.length)) (hw : ∀ d ∈ es, d.width = szOf P e) (hx : ∀ d ∈ es2, d.width = szOf P e)
    (hb : es.length + es2.length ≤ 140737488355328) (hb2 : (es.length + es2.length) * bytesOf P e ≤ 140737488355328) (k : K (.sl (.row S.next) (es ++ es2)) (S.grow own e (es.length + es2.length))) : dapp P S t t ty (.sl own es) (.sl own2 es2) K := by
  refine dapp_row ?_
  simp only [dappend, he, hz, true_and, Option.isSome_some]
  refine ⟨hw, hx, ?_, hb, hb2, k⟩
  rcases h with rfl | ⟨g, rfl, h⟩
  · trivial
  · exact h
/-- Where a name stands first. -/
theorem ixN_step {α : Type} [DecidableEq α] {l : List α} {x : α} {i : Nat} (hi : i ≤ ixN l x) (hl : i < l.length) (hn : l[i] ≠ x) : i + 1 ≤ ixN l x := by
  rcases Nat.lt_or_ge i (ixN l x) with h1 | h1
  · exact h1
  · exfalso
    have e : i = l.idxOf x := by unfold ixN at hi h1; omega
    subst e
    exact hn (List.getElem_idxOf hl)
set_option maxRecDepth 200000 in
set_option maxHeartbeats 8000000 in
theorem refPut_d (x : DVal) : ∀ (ps : List DStp) (own : Own) (v : DVal), okV v → v.weight ≤ 1000000 → ps.length ≤ 1000000 →
    DPure Tryz.prog 43 [encV v, encV x, .sl own (ps.map encP)] (.tup [encV (chV (fun _ => x) ps v), .v (.bool (getV ps v).isSome)]) := by
  intro ps
  induction ps with
  | nil =>
    intro own v hok hw hl
    refine dpure_of_dwp mixed Tryz.func43 rfl (fun _ _ => by kernel_rfl) (rs := [.cell 6 29, .tmp 7]) rfl (by kernel_rfl) (closed_res _ _) (fun S hS => ?_)
    (simp (disch := first | decide | omega | (simp only [nx]; first | done | omega)) only [go_sem, Nat.reduceMul]; (repeat (with_reducible refine And.intro (by first | omega | assumption | rfl) ?_)))
    refine ⟨?_, (by (repeat' first | assumption | exact St.Sub.refl _ | exact RowOk.sub (by assumption) (by assumption) | refine St.Sub.trans ?_ (RowOk.sub (by assumption) (by assumption)) | refine St.Sub.add ?_ ?_ _ | refine St.Sub.set ?_ ?_ ?_ _ | refine St.Sub.keep ?_ ?_ | refine St.WF.leave ?_ _ | refine St.WF.add ?_ _ | refine St.WF.set ?_ ?_ _ | refine St.WF.grow ?_ _ _ _ | refine St.WF.keep ?_ ?_ | (first | omega | (simp only [RowOk.lo, nx]; first | done | omega))))⟩
    simp only [D.frz, frzL, frz_encV]
    rfl
  | cons p ps ih =>
    intro own v hok hw hl
    have hl' : ps.length ≤ 1000000 := by simp only [List.length_cons] at hl; omega
    refine dpure_of_dwp mixed Tryz.func43 rfl (fun _ _ => by kernel_rfl) (rs := [.cell 6 29, .tmp 7]) rfl (by kernel_rfl) (closed_res _ _) (fun S hS => ?_)
    have b0 : (((ps.length + 1 : Nat) : Int) == 0) = false := by simp; omega
    (simp (disch := first | decide | omega | (simp only [nx]; first | done | omega)) only [go_sem, Nat.reduceMul, b0]; (repeat (with_reducible refine And.intro (by first | omega | assumption | rfl) ?_)))
    by_cases hin : inP v p
    · have hpl : plN v p < v.parts.length := by have := hin.1; have := hin.2; unfold plN; omega
      have hgd : v.parts.getD (plN v p) default = v.parts[plN v p] := getD_at hpl
      have hget : getV (p :: ps) v = getV ps v.parts[plN v p] := by rw [getV_cons, if_pos hin, hgd]
      have hch : chV (fun _ => x) (p :: ps) v = v.withParts (v.parts.set (plN v p) (chV (fun _ => x) ps v.parts[plN v p])) := by rw [chV, if_pos hin, hgd]
      obtain ⟨o1, o2, o3, o4, o5, o6, o7, o8, o9⟩ := (okV_eq v).1 hok
      have hxo : okV v.parts[plN v p] := o9 _ (List.getElem_mem hpl)
      have hxw : v.parts[plN v p].weight ≤ 1000000 := by have := DVal.weight_part (List.getElem_mem hpl); omega
      have hg1 : getD_ v [p] = .tup [encV v.parts[plN v p], .v (.bool true)] := by
        rw [getD_, show getV [p] v = stepG v p from rfl, stepG_eq, if_pos hin, hgd]; rfl
      (refine ddraw_any (fun S' => S'.ob S.next = some (.box 29 (encV v).cells)) 10 (by (first | (simp (disch := first | decide | omega | (simp only [nx]; first | done | omega)) only [go_sem, Nat.reduceMul, hg1]; first | done | rfl) | rfl)) (by kernel_rfl) ?_; refine s_take 0 rfl (by kernel_rfl) (by kernel_rfl) (v := ?v1) (fun S' hz => dquietR_of ?h1) <| s_take 1 rfl (by kernel_rfl) (by kernel_rfl) (v := ?v2) (fun S' hz => dquietR_of ?h2) <| s_take 2 rfl (by kernel_rfl) (by kernel_rfl) (v := ?v3) (fun S' hz => dquietR_of ?h3) <| ?k3; (case h1 | h2 | h3 => ((simp (disch := first | decide | omega | (simp only [nx]; first | done | omega)) only [go_sem, Nat.reduceMul, hg1, hz]; (repeat (with_reducible refine And.intro (by first | omega | assumption | rfl) ?_))); first | done | exact rfl | omega)); refine s_take 3 rfl (by kernel_rfl) (by kernel_rfl) (v := ?v4) (fun S' hz => dquietR_of ?h4) ?k4; (case h4 => ((simp (disch := first | decide | omega | (simp only [nx]; first | done | omega)) only [go_sem, Nat.reduceMul, hg1, hz]; (repeat (with_reducible refine And.intro (by first | omega | assumption | rfl) ?_))); refine dqgo_mk (refGet_d v [p] _ hok hw (by simp)) ?_; exact rfl)); refine s_take 4 rfl (by kernel_rfl) (by kernel_rfl) (v := ?v5) (fun S' hz => dquietR_of ?h5) <| s_take 5 rfl (by kernel_rfl) (by kernel_rfl) (v := ?v6) (fun S' hz => dquietR_of ?h6) <| s_take 6 rfl (by kernel_rfl) (by kernel_rfl) (v := ?v7) (fun S' hz => dquietR_of ?h7) <| ?k7; (case h5 | h6 | h7 => ((simp (disch := first | decide | omega | (simp only [nx]; first | done | omega)) only [go_sem, Nat.reduceMul, hg1, hz]; (repeat (with_reducible refine And.intro (by first | omega | assumption | rfl) ?_))); first | done | exact rfl | omega)); refine s_split [7] (by kernel_rfl) (by simp) ?_; intro j_ hj_; obtain rfl : j_ = 7 := (by simpa using hj_); clear hj_; refine s_op rfl ?_; (simp (disch := first | decide | omega | (simp only [nx]; first | done | omega)) only [go_sem, Nat.reduceMul, hg1]; (repeat (with_reducible refine And.intro (by first | omega | assumption | rfl) ?_))); refine s_split [8] (by kernel_rfl) (by simp) ?_; intro j_ hj_; obtain rfl : j_ = 8 := (by simpa using hj_); clear hj_; refine s_op rfl ?_; (simp (disch := first | decide | omega | (simp only [nx]; first | done | omega)) only [go_sem, Nat.reduceMul, hg1]; (repeat (with_reducible refine And.intro (by first | omega | assumption | rfl) ?_))); refine s_take 9 rfl (by kernel_rfl) (by kernel_rfl) (v := ?v8) (fun S' hz => dquietR_of ?h8) ?k8; (case h8 => ((simp (disch := first | decide | omega | (simp only [nx]; first | done | omega)) only [go_sem, Nat.reduceMul, hg1, hz]; (repeat (with_reducible refine And.intro (by first | omega | assumption | rfl) ?_))); first | done | exact rfl | omega)); refine s_done (by kernel_rfl) ?_; (simp (disch := first | decide | omega | (simp only [nx]; first | done | omega)) only [go_sem, Nat.reduceMul, hg1]; (repeat (with_reducible refine And.intro (by first | omega | assumption | rfl) ?_))))
      have ih0 := fun o => ih o v.parts[plN v p] hxo hxw hl'
      generalize hz0 : v.parts[plN v p] = z at *
      cases hgp : getV ps z with
      | none =>
        rw [hgp] at ih0
        generalize hz1 : chV (fun _ => x) ps z = y at *
        (refine ddraw_any (fun S' => S'.ob (S.next + 1 + 1 + 1) = some (.box 29 (encV z).cells) ∧ S'.ob (S.next + 1) = some (.box 29 (encV x).cells)) 11 (by (first | (simp (disch := first | decide | omega | (simp only [nx]; first | done | omega)) only [go_sem, Nat.reduceMul, Option.isSome_none]; first | done | rfl) | rfl)) (by kernel_rfl) ?_; refine s_take 0 rfl (by kernel_rfl) (by kernel_rfl) (v := ?v9) (fun S' hz => dquietR_of ?h9) <| s_take 1 rfl (by kernel_rfl) (by kernel_rfl) (v := ?v10) (fun S' hz => dquietR_of ?h10) <| s_take 2 rfl (by kernel_rfl) (by kernel_rfl) (v := ?v11) (fun S' hz => dquietR_of ?h11) <| s_take 3 rfl (by kernel_rfl) (by kernel_rfl) (v := ?v12) (fun S' hz => dquietR_of ?h12) <| ?k12; (case h9 | h10 | h11 | h12 => ((simp (disch := first | decide | omega | (simp only [nx]; first | done | omega)) only [go_sem, Nat.reduceMul, Option.isSome_none, hz]; (repeat (with_reducible refine And.intro (by first | omega | assumption | rfl) ?_))); first | done | exact rfl | omega)); refine s_take 4 rfl (by kernel_rfl) (by kernel_rfl) (v := ?v13) (fun S' hz => dquietR_of ?h13) ?k13; (case h13 => ((simp (disch := first | decide | omega | (simp only [nx]; first | done | omega)) only [go_sem, Nat.reduceMul, Option.isSome_none, hz]; (repeat (with_reducible refine And.intro (by first | omega | assumption | rfl) ?_))); refine dqgo_mk (ih0 _) ?_; exact rfl)); refine s_take 5 rfl (by kernel_rfl) (by kernel_rfl) (v := ?v14) (fun S' hz => dquietR_of ?h14) <| s_take 6 rfl (by kernel_rfl) (by kernel_rfl) (v := ?v15) (fun S' hz => dquietR_of ?h15) <| s_take 7 rfl (by kernel_rfl) (by kernel_rfl) (v := ?v16) (fun S' hz => dquietR_of ?h16) <| ?k16; (case h14 | h15 | h16 => ((simp (disch := first | decide | omega | (simp only [nx]; first | done | omega)) only [go_sem, Nat.reduceMul, Option.isSome_none, hz]; (repeat (with_reducible refine And.intro (by first | omega | assumption | rfl) ?_))); first | done | exact rfl | omega)); refine s_split [8] (by kernel_rfl) (by simp) ?_; intro j_ hj_; obtain rfl : j_ = 8 := (by simpa using hj_); clear hj_; refine s_op rfl ?_; (simp (disch := first | decide | omega | (simp only [nx]; first | done | omega)) only [go_sem, Nat.reduceMul, Option.isSome_none]; (repeat (with_reducible refine And.intro (by first | omega | assumption | rfl) ?_))); refine s_split [9] (by kernel_rfl) (by simp) ?_; intro j_ hj_; obtain rfl : j_ = 9 := (by simpa using hj_); clear hj_; refine s_op rfl ?_; (simp (disch := first | decide | omega | (simp only [nx]; first | done | omega)) only [go_sem, Nat.reduceMul, Option.isSome_none]; (repeat (with_reducible refine And.intro (by first | omega | assumption | rfl) ?_))); refine s_take 10 rfl (by kernel_rfl) (by kernel_rfl) (v := ?v17) (fun S' hz => dquietR_of ?h17) ?k17; (case h17 => ((simp (disch := first | decide | omega | (simp only [nx]; first | done | omega)) only [go_sem, Nat.reduceMul, Option.isSome_none, hz]; (repeat (with_reducible refine And.intro (by first | omega | assumption | rfl) ?_))); first | done | exact rfl | omega)); refine s_done (by kernel_rfl) ?_; (simp (disch := first | decide | omega | (simp only [nx]; first | done | omega)) only [go_sem, Nat.reduceMul, Option.isSome_none]; (repeat (with_reducible refine And.intro (by first | omega | assumption | rfl) ?_))))
        refine ⟨?_, (by (repeat' first | assumption | exact St.Sub.refl _ | exact RowOk.sub (by assumption) (by assumption) | refine St.Sub.trans ?_ (RowOk.sub (by assumption) (by assumption)) | refine St.Sub.add ?_ ?_ _ | refine St.Sub.set ?_ ?_ ?_ _ | refine St.Sub.keep ?_ ?_ | refine St.WF.leave ?_ _ | refine St.WF.add ?_ _ | refine St.WF.set ?_ ?_ _ | refine St.WF.grow ?_ _ _ _ | refine St.WF.keep ?_ ?_ | (first | omega | (simp only [RowOk.lo, nx]; first | done | omega))))⟩
        rw [hget, hgp, chV_none _ _ (by rw [hget, hgp])]
        simp only [D.frz, frzL, frz_encV]
        rfl
      | some u =>
        rw [hgp] at ih0
        generalize hz1 : chV (fun _ => x) ps z = y at *
        (refine ddraw_any (fun S' => S'.ob (S.next + 1 + 1 + 1) = some (.box 29 (encV z).cells) ∧ S'.ob (S.next + 1) = some (.box 29 (encV x).cells)) 11 (by (first | (simp (disch := first | decide | omega | (simp only [nx]; first | done | omega)) only [go_sem, Nat.reduceMul, Option.isSome_some]; first | done | rfl) | rfl)) (by kernel_rfl) ?_; refine s_take 0 rfl (by kernel_rfl) (by kernel_rfl) (v := ?v18) (fun S' hz => dquietR_of ?h18) <| s_take 1 rfl (by kernel_rfl) (by kernel_rfl) (v := ?v19) (fun S' hz => dquietR_of ?h19) <| s_take 2 rfl (by kernel_rfl) (by kernel_rfl) (v := ?v20) (fun S' hz => dquietR_of ?h20) <| s_take 3 rfl (by kernel_rfl) (by kernel_rfl) (v := ?v21) (fun S' hz => dquietR_of ?h21) <| ?k21; (case h18 | h19 | h20 | h21 => ((simp (disch := first | decide | omega | (simp only [nx]; first | done | omega)) only [go_sem, Nat.reduceMul, Option.isSome_some, hz]; (repeat (with_reducible refine And.intro (by first | omega | assumption | rfl) ?_))); first | done | exact rfl | omega)); refine s_take 4 rfl (by kernel_rfl) (by kernel_rfl) (v := ?v22) (fun S' hz => dquietR_of ?h22) ?k22; (case h22 => ((simp (disch := first | decide | omega | (simp only [nx]; first | done | omega)) only [go_sem, Nat.reduceMul, Option.isSome_some, hz]; (repeat (with_reducible refine And.intro (by first | omega | assumption | rfl) ?_))); refine dqgo_mk (ih0 _) ?_; exact rfl)); refine s_take 5 rfl (by kernel_rfl) (by kernel_rfl) (v := ?v23) (fun S' hz => dquietR_of ?h23) <| s_take 6 rfl (by kernel_rfl) (by kernel_rfl) (v := ?v24) (fun S' hz => dquietR_of ?h24) <| s_take 7 rfl (by kernel_rfl) (by kernel_rfl) (v := ?v25) (fun S' hz => dquietR_of ?h25) <| ?k25; (case h23 | h24 | h25 => ((simp (disch := first | decide | omega | (simp only [nx]; first | done | omega)) only [go_sem, Nat.reduceMul, Option.isSome_some, hz]; (repeat (with_reducible refine And.intro (by first | omega | assumption | rfl) ?_))); first | done | exact rfl | omega)); refine s_split [8] (by kernel_rfl) (by simp) ?_; intro j_ hj_; obtain rfl : j_ = 8 := (by simpa using hj_); clear hj_; refine s_op rfl ?_; (simp (disch := first | decide | omega | (simp only [nx]; first | done | omega)) only [go_sem, Nat.reduceMul, Option.isSome_some]; (repeat (with_reducible refine And.intro (by first | omega | assumption | rfl) ?_))); refine s_split [9] (by kernel_rfl) (by simp) ?_; intro j_ hj_; obtain rfl : j_ = 9 := (by simpa using hj_); clear hj_; refine s_op rfl ?_; (simp (disch := first | decide | omega | (simp only [nx]; first | done | omega)) only [go_sem, Nat.reduceMul, Option.isSome_some]; (repeat (with_reducible refine And.intro (by first | omega | assumption | rfl) ?_))); refine s_take 10 rfl (by kernel_rfl) (by kernel_rfl) (v := ?v26) (fun S' hz => dquietR_of ?h26) ?k26; (case h26 => ((simp (disch := first | decide | omega | (simp only [nx]; first | done | omega)) only [go_sem, Nat.reduceMul, Option.isSome_some, hz]; (repeat (with_reducible refine And.intro (by first | omega | assumption | rfl) ?_))); first | done | exact rfl | omega)); refine s_done (by kernel_rfl) ?_; (simp (disch := first | decide | omega | (simp only [nx]; first | done | omega)) only [go_sem, Nat.reduceMul, Option.isSome_some]; (repeat (with_reducible refine And.intro (by first | omega | assumption | rfl) ?_))))
        refine ddraw_mk 7 (by kernel_rfl) ?_
        (simp (disch := first | decide | omega | (simp only [nx]; first | done | omega)) only [go_sem, Nat.reduceMul]; (repeat (with_reducible refine And.intro (by first | omega | assumption | rfl) ?_)))
        refine dqgo_mk (refElem_d v p.2 hw) ?_
        (simp (disch := first | decide | omega | (simp only [nx]; first | done | omega)) only [go_sem, Nat.reduceMul]; (repeat (with_reducible refine And.intro (by first | omega | assumption | rfl) ?_)))
        by_cases h0 : p.1 = []
        · have b2 : (!(p.1 == [])) = false := by simp [h0]
          have he : elemI v p.2 = ((plN v p : Nat) : Int) := by rw [← stepG_id (v := v) h0]; unfold plN; have := hin.1; omega
          (simp (disch := first | decide | omega | (simp only [nx]; first | done | omega)) only [go_sem, Nat.reduceMul, b2, he]; (repeat (with_reducible refine And.intro (by first | omega | assumption | rfl) ?_)))
          
          generalize hTe : St.set (St.add _ _) _ _ = T
          have t0 : T.ob S.next = some (.box 29 (encV v).cells) := by rw [← hTe]; (first | (simp (disch := first | decide | omega | (simp only [nx]; first | done | omega)) only [go_sem, Nat.reduceMul]; first | done | rfl) | rfl)
          have t4 : T.ob (S.next + 1 + 1 + 1 + 1) = some (.box 29 (encV y).cells) := by rw [← hTe]; (first | (simp (disch := first | decide | omega | (simp only [nx]; first | done | omega)) only [go_sem, Nat.reduceMul]; first | done | rfl) | rfl)
          have t6 : T.ob (S.next + 1 + 1) = some (.box 29 [.v (.int .i64 0), .v (.int .i64 0), .v (.string ⟨#[]⟩), .sl .full [], .sl .full [], .sl .full []]) := by rw [← hTe]; (first | (simp (disch := first | decide | omega | (simp only [nx]; first | done | omega)) only [go_sem, Nat.reduceMul]; first | done | rfl) | rfl)
          have tB : T.ob (S.next + 1 + 1 + 1 + 1 + 1) = some (.box 29 (encV v).cells) := by rw [← hTe]; (first | (simp (disch := first | decide | omega | (simp only [nx]; first | done | omega)) only [go_sem, Nat.reduceMul]; first | done | rfl) | rfl)
          have hT : T.WF := by rw [← hTe]; exact (by (repeat' first | assumption | refine St.WF.leave ?_ _ | refine St.WF.add ?_ _ | refine St.WF.set ?_ ?_ _ | refine St.WF.grow ?_ _ _ _ | refine St.WF.keep ?_ ?_ | (first | omega | (simp only [RowOk.lo, nx]; first | done | omega))))
          have hTn : T.next = S.next + 1 + 1 + 1 + 1 + 1 + 1 := by rw [← hTe]; simp only [add_next, set_next]
          have hTs : S.Sub T := by rw [← hTe]; exact (by (repeat' first | assumption | exact St.Sub.refl _ | exact RowOk.sub (by assumption) (by assumption) | refine St.Sub.trans ?_ (RowOk.sub (by assumption) (by assumption)) | refine St.Sub.add ?_ ?_ _ | refine St.Sub.set ?_ ?_ ?_ _ | refine St.Sub.keep ?_ ?_ | refine St.WF.leave ?_ _ | refine St.WF.add ?_ _ | refine St.WF.set ?_ ?_ _ | refine St.WF.grow ?_ _ _ _ | refine St.WF.keep ?_ ?_ | (first | omega | (simp only [RowOk.lo, nx]; first | done | omega))))
          clear hTe
          have heV : elT Tryz.prog 27 = some 29 := by kernel_rfl
          have hzV : szOf Tryz.prog 29 = 6 := by kernel_rfl
          have hbV : bytesOf Tryz.prog 29 = 104 := by kernel_rfl
          have wV : ∀ l : List DVal, ∀ d ∈ l.map encV, d.width = szOf Tryz.prog 29 := fun l d hd => by rw [hzV]; exact wVs l d hd
          have hwt := v.weight_eq
          have hpn := partsLen v
          have w2 : IntKind.i64.wrap (((plN v p : Nat) : Int) + 1) = ((plN v p + 1 : Nat) : Int) := IntWalk.i64_in _ ⟨by omega, by omega⟩
          have l1 : (((plN v p : Nat) : Int) ≤ (v.parts.length : Int)) = True := eq_true (by omega)
          have l2 : (((plN v p + 1 : Nat) : Int) ≤ (v.parts.length : Int)) = True := eq_true (by omega)
          have l3 : (∀ d, d ∈ List.map encV v.parts → d.cells.length = 6) = True := eq_true fun d hd => by obtain ⟨q, _, rfl⟩ := List.mem_map.1 hd; exact cells_encV q
          have g1 : ∀ j a, j < T.next → (T.grow .full 29 a).ob j = T.ob j := fun j a h => grow_skip (by omega) (fun _ h => by cases h)
          have g2 : ∀ j a b, j < T.next → ((T.grow .full 29 a).grow (.row T.next) 29 b).ob j = T.ob j := fun j a b h => (grow_skip (by rw [grow_next]; omega) (fun g h => by injection h with h; omega)).trans (g1 j a h)
          have g3 : ∀ j a b c, j < T.next → (((T.grow .full 29 a).grow (.row T.next) 29 b).grow (.row (T.next + 1)) 29 c).ob j = T.ob j := fun j a b c h => (grow_skip (by rw [grow_next, grow_next]; omega) (fun g h => by injection h with h; omega)).trans (g2 j a b h)
          have yB : ∀ a b c, (((T.grow .full 29 a).grow (.row T.next) 29 b).grow (.row (T.next + 1)) 29 c).ob (S.next + 1 + 1 + 1 + 1 + 1) = some (.box 29 (encV v).cells) := fun a b c => (g3 _ _ _ _ (by omega)).trans tB
          have y6 : ∀ a b c, (((T.grow .full 29 a).grow (.row T.next) 29 b).grow (.row (T.next + 1)) 29 c).ob (S.next + 1 + 1) = some (.box 29 [.v (.int .i64 0), .v (.int .i64 0), .v (.string ⟨#[]⟩), .sl .full [], .sl .full [], .sl .full []]) := fun a b c => (g3 _ _ _ _ (by omega)).trans t6
          have cv : (encV v).cells = [.v (.int .i64 v.kind), .v (.int .i64 v.n), strD v.s, .sl .no (v.names.map strD), .sl .no (v.ids.map u64D), .sl .no (v.parts.map encV)] := by rw [encV_eq]; rfl
          refine ddraw_any (fun S' => S'.ob S.next = some (.box 29 (encV v).cells) ∧ S'.ob (S.next + 1 + 1 + 1 + 1) = some (.box 29 (encV y).cells)) 16 (by (first | (simp (disch := first | decide | omega | (simp only [nx]; first | done | omega)) only [go_sem, Nat.reduceMul, t0, t4]; first | done | rfl) | rfl)) (by kernel_rfl) ?_
          (refine s_take 0 rfl (by kernel_rfl) (by kernel_rfl) (v := ?v35) (fun S' hz => dquietR_of ?h35) <| s_take 1 rfl (by kernel_rfl) (by kernel_rfl) (v := ?v36) (fun S' hz => dquietR_of ?h36) <| s_take 2 rfl (by kernel_rfl) (by kernel_rfl) (v := ?v37) (fun S' hz => dquietR_of ?h37) <| s_take 3 rfl (by kernel_rfl) (by kernel_rfl) (v := ?v38) (fun S' hz => dquietR_of ?h38) <| ?k38; (case h35 | h36 | h37 | h38 => ((simp (disch := first | decide | omega | (simp only [nx]; first | done | omega)) only [go_sem, Nat.reduceMul, he, w2, gdV5, hz]; (repeat (with_reducible refine And.intro (by first | omega | assumption | rfl) ?_))); first | done | exact rfl | omega)))
          (refine s_take 4 rfl (by kernel_rfl) (by kernel_rfl) (v := .sl .no ((v.parts.map encV).take (plN v p))) (fun S' hz => dquietR_of (by (simp (disch := first | decide | omega | (simp only [nx]; first | done | omega)) only [go_sem, Nat.reduceMul, he, w2, l1, true_or]; (repeat (with_reducible refine And.intro (by first | omega | assumption | rfl) ?_))); first | done | rfl | omega)) ?_)
          (refine s_take 6 rfl (by kernel_rfl) (by kernel_rfl) (v := ?v39) (fun S' hz => dquietR_of ?h39) <| s_take 7 rfl (by kernel_rfl) (by kernel_rfl) (v := ?v40) (fun S' hz => dquietR_of ?h40) <| s_take 9 rfl (by kernel_rfl) (by kernel_rfl) (v := ?v41) (fun S' hz => dquietR_of ?h41) <| s_take 10 rfl (by kernel_rfl) (by kernel_rfl) (v := ?v42) (fun S' hz => dquietR_of ?h42) <| s_take 11 rfl (by kernel_rfl) (by kernel_rfl) (v := ?v43) (fun S' hz => dquietR_of ?h43) <| s_take 12 rfl (by kernel_rfl) (by kernel_rfl) (v := ?v44) (fun S' hz => dquietR_of ?h44) <| ?k44; (case h39 | h40 | h41 | h42 | h43 | h44 => ((simp (disch := first | decide | omega | (simp only [nx]; first | done | omega)) only [go_sem, Nat.reduceMul, he, w2, gdV5, hz]; (repeat (with_reducible refine And.intro (by first | omega | assumption | rfl) ?_))); first | done | exact rfl | omega)))
          (refine s_take 13 rfl (by kernel_rfl) (by kernel_rfl) (v := .sl .no ((v.parts.map encV).drop (plN v p + 1))) (fun S' hz => dquietR_of (by (simp (disch := first | decide | omega | (simp only [nx]; first | done | omega)) only [go_sem, Nat.reduceMul, he, w2, l2, l3, or_true]; (repeat (with_reducible refine And.intro (by first | omega | assumption | rfl) ?_))); first | done | rfl | omega)) ?_)
          (refine s_split [5] (by kernel_rfl) (by simp) ?_; intro j_ hj_; obtain rfl : j_ = 5 := (by simpa using hj_); clear hj_; refine s_op rfl ?_; (simp (disch := first | decide | omega | (simp only [nx]; first | done | omega)) only [go_sem, Nat.reduceMul]; (repeat (with_reducible refine And.intro (by first | omega | assumption | rfl) ?_))))
          refine dapp_more heV (by kernel_rfl) (.inl rfl) (fun _ h => by cases h) (fun d hd => wV v.parts d (List.mem_of_mem_take hd)) (by simp only [List.length_take, List.length_map, List.length_nil]; omega) (by simp only [hbV, List.length_take, List.length_map, List.length_nil]; omega) ?_
          refine ⟨⟨(g1 _ _ (by omega)).trans t0, (g1 _ _ (by omega)).trans t4⟩, ?_⟩
          (refine s_split [8] (by kernel_rfl) (by simp) ?_; intro j_ hj_; obtain rfl : j_ = 8 := (by simpa using hj_); clear hj_; refine s_op rfl ?_; (simp (disch := first | decide | omega | (simp only [nx]; first | done | omega)) only [go_sem, Nat.reduceMul]; (repeat (with_reducible refine And.intro (by first | omega | assumption | rfl) ?_))))
          refine dapp_more heV (by kernel_rfl) (.inr ⟨_, rfl, ?_⟩) (fun d hd => wV v.parts d (List.mem_of_mem_take hd)) (fun d hd => by obtain rfl := List.mem_singleton.1 hd; rw [hzV]; exact cells_encV y) (by simp only [List.length_take, List.length_map, List.length_nil, List.length_cons]; omega) (by simp only [hbV, List.length_take, List.length_map, List.length_nil, List.length_cons]; omega) ?_
          · exact grow_hit
          refine ⟨⟨(g2 _ _ _ (by omega)).trans t0, (g2 _ _ _ (by omega)).trans t4⟩, ?_⟩
          (refine s_split [14] (by kernel_rfl) (by simp) ?_; intro j_ hj_; obtain rfl : j_ = 14 := (by simpa using hj_); clear hj_; refine s_op rfl ?_; (simp (disch := first | decide | omega | (simp only [nx]; first | done | omega)) only [go_sem, Nat.reduceMul]; (repeat (with_reducible refine And.intro (by first | omega | assumption | rfl) ?_))))
          refine dapp_more heV (by kernel_rfl) (.inr ⟨_, rfl, ?_⟩) (fun d hd => ?_) (fun d hd => wV v.parts d (List.mem_of_mem_drop hd)) (by simp only [List.length_take, List.length_drop, List.length_append, List.length_map, List.length_nil, List.length_cons]; omega) (by simp only [hbV, List.length_take, List.length_drop, List.length_append, List.length_map, List.length_nil, List.length_cons]; omega) ?_
          · have hh := grow_hit (S := T.grow .full 29 (List.take (plN v p) (List.map encV v.parts)).length) (own := .row T.next) (e := 29) (n := (List.take (plN v p) (List.map encV v.parts)).length + [encV y].length)
            rw [grow_next] at hh
            simp only [List.length_append]
            exact hh
          · rcases List.mem_append.1 hd with hd | hd
            · exact wV v.parts d (List.mem_of_mem_take hd)
            · obtain rfl := List.mem_singleton.1 hd; rw [hzV]; exact cells_encV y
          refine ⟨⟨(g3 _ _ _ _ (by omega)).trans t0, (g3 _ _ _ _ (by omega)).trans t4⟩, ?_⟩
          (refine s_take 15 rfl (by kernel_rfl) (by kernel_rfl) (v := ?v45) (fun S' hz => dquietR_of ?h45) ?k45; (case h45 => ((simp (disch := first | decide | omega | (simp only [nx]; first | done | omega)) only [go_sem, Nat.reduceMul, he, hz]; (repeat (with_reducible refine And.intro (by first | omega | assumption | rfl) ?_))); first | done | exact rfl | omega)))
          (refine s_done (by kernel_rfl) ?_; (simp (disch := first | decide | omega | (simp only [nx]; first | done | omega)) only [go_sem, Nat.reduceMul, he, yB, y6, cv]; (repeat (with_reducible refine And.intro (by first | omega | assumption | rfl) ?_))))
          have hcc : List.take (plN v p) (List.map encV v.parts) ++ [encV y] ++ List.drop (plN v p + 1) (List.map encV v.parts) = (v.parts.set (plN v p) y).map encV := by
            rw [List.map_set, List.set_eq_take_append_cons_drop, if_pos (by rw [List.length_map]; exact hpl)]; simp
          rw [hcc, hch, hget, hgp]
          refine ⟨?_, ?_⟩
          · simp only [D.frz, frzL, frz_strs, frz_u64s, frz_mapV, sv]
            rw [encV_eq (v.withParts _)]; rfl
          · have hTx := hTs.next
            refine ⟨by show S.next ≤ T.next + 1 + 1 + 1; omega, fun j ob e => ?_⟩
            have hj := hS.lt e
            simp only [St.set]
            rw [if_neg (by omega), if_neg (by omega), g3 _ _ _ _ (by omega)]
            exact hTs.ob _ _ e

        · have b2 : (!(p.1 == [])) = true := by simp [h0]
          have hm : p.1 ∈ v.names ∧ plN v p = ixN v.names p.1 := by
            have hp0 := hin.1
            unfold plN
            unfold placeOf at hp0 ⊢
            rw [if_neg h0] at hp0 ⊢
            split at hp0
            · rename_i h; rw [if_pos h]; exact ⟨h.2, by simp⟩
            · omega
          have hwe := v.weight_eq
          have hil := ix_lt hm.1
          (simp (disch := first | decide | omega | (simp only [nx]; first | done | omega)) only [go_sem, Nat.reduceMul, b2]; (repeat (with_reducible refine And.intro (by first | omega | assumption | rfl) ?_)))
          (refine dloop_st (fun t => List.contains [12, 50, 51, 52, 53, 54, 55, 56, 57, 58, 59, 60, 61] t) (by kernel_rfl) ?_ (v.names.length) (fun i f => i ≤ v.names.length ∧ f 12 = .v (.int .i64 (i : Nat)) ∧ (i ≤ ixN v.names p.1)) ?_ ?_; (exact (by (repeat' first | assumption | refine St.WF.leave ?_ _ | refine St.WF.add ?_ _ | refine St.WF.set ?_ ?_ _ | refine St.WF.grow ?_ _ _ _ | refine St.WF.keep ?_ ?_ | (first | omega | (simp only [RowOk.lo, nx]; first | done | omega))))); (exact ⟨(by omega), (by (first | (simp (disch := first | decide | omega | (simp only [nx]; first | done | omega)) only [go_sem, Nat.reduceMul]; first | done | rfl) | rfl)), (Nat.zero_le _)⟩); intro i g tn hn hT hg hI; obtain ⟨le, q12, hno⟩ := hI; have q2 := hg 2 rfl; have q3 := hg 3 rfl; have q6 := hg 6 rfl; have q7 := hg 7 rfl; have q10 := hg 10 rfl; simp (disch := first | decide | omega | (simp only [nx]; first | done | omega)) only [go_sem, Nat.reduceMul] at q2 q3 q6 q7 q10; clear hg; have hn' := hn; try simp only [add_next, set_next, grow_next, leave_next, drop_next] at hn')
          have hlt : i < v.names.length := by omega
          have w1 : IntKind.i64.wrap ((i : Int) + 1) = ((i + 1 : Nat) : Int) := IntWalk.i64_in _ ⟨by omega, by omega⟩
          by_cases hx : v.names[i] = p.1
          · have b3 : (!(v.names[i] == p.1)) = false := by simp [hx]
            have hi : i = plN v p := by
              rw [hm.2]
              rcases Nat.lt_or_ge i (ixN v.names p.1) with h1 | h1
              · have := ixN_step (Nat.le_of_lt h1) hlt
                exact absurd hx (by simpa using List.not_of_lt_findIdx h1)
              · omega
            (simp (disch := first | decide | omega | (simp only [nx]; first | done | omega)) only [go_sem, Nat.reduceMul, q2, q3, q12, b3]; (repeat (with_reducible refine And.intro (by first | omega | assumption | rfl) ?_)))
            refine ddraw_mk 10 (by kernel_rfl) ?_
            (simp (disch := first | decide | omega | (simp only [nx]; first | done | omega)) only [go_sem, Nat.reduceMul, q2, q3, q12, b3, hlt]; (repeat (with_reducible refine And.intro (by first | omega | assumption | rfl) ?_)))
            rw [hi] at q12
            
            generalize hTe : St.set (St.add _ _) _ _ = T
            have t0 : T.ob S.next = some (.box 29 (encV v).cells) := by rw [← hTe]; (first | (simp (disch := first | decide | omega | (simp only [nx]; first | done | omega)) only [go_sem, Nat.reduceMul]; first | done | rfl) | rfl)
            have t4 : T.ob (S.next + 1 + 1 + 1 + 1) = some (.box 29 (encV y).cells) := by rw [← hTe]; (first | (simp (disch := first | decide | omega | (simp only [nx]; first | done | omega)) only [go_sem, Nat.reduceMul]; first | done | rfl) | rfl)
            have t6 : T.ob (S.next + 1 + 1) = some (.box 29 [.v (.int .i64 0), .v (.int .i64 0), .v (.string ⟨#[]⟩), .sl .full [], .sl .full [], .sl .full []]) := by rw [← hTe]; (first | (simp (disch := first | decide | omega | (simp only [nx]; first | done | omega)) only [go_sem, Nat.reduceMul]; first | done | rfl) | rfl)
            have tB : T.ob (tn) = some (.box 29 (encV v).cells) := by rw [← hTe]; (first | (simp (disch := first | decide | omega | (simp only [nx]; first | done | omega)) only [go_sem, Nat.reduceMul]; first | done | rfl) | rfl)
            have hT : T.WF := by rw [← hTe]; exact (by (repeat' first | assumption | refine St.WF.leave ?_ _ | refine St.WF.add ?_ _ | refine St.WF.set ?_ ?_ _ | refine St.WF.grow ?_ _ _ _ | refine St.WF.keep ?_ ?_ | (first | omega | (simp only [RowOk.lo, nx]; first | done | omega))))
            have hTn : T.next = tn + 1 := by rw [← hTe]; simp only [add_next, set_next]
            have hTs : S.Sub T := by rw [← hTe]; exact (by (repeat' first | assumption | exact St.Sub.refl _ | exact RowOk.sub (by assumption) (by assumption) | refine St.Sub.trans ?_ (RowOk.sub (by assumption) (by assumption)) | refine St.Sub.add ?_ ?_ _ | refine St.Sub.set ?_ ?_ ?_ _ | refine St.Sub.keep ?_ ?_ | refine St.WF.leave ?_ _ | refine St.WF.add ?_ _ | refine St.WF.set ?_ ?_ _ | refine St.WF.grow ?_ _ _ _ | refine St.WF.keep ?_ ?_ | (first | omega | (simp only [RowOk.lo, nx]; first | done | omega))))
            clear hTe
            have heV : elT Tryz.prog 27 = some 29 := by kernel_rfl
            have hzV : szOf Tryz.prog 29 = 6 := by kernel_rfl
            have hbV : bytesOf Tryz.prog 29 = 104 := by kernel_rfl
            have wV : ∀ l : List DVal, ∀ d ∈ l.map encV, d.width = szOf Tryz.prog 29 := fun l d hd => by rw [hzV]; exact wVs l d hd
            have hwt := v.weight_eq
            have hpn := partsLen v
            have w2 : IntKind.i64.wrap (((plN v p : Nat) : Int) + 1) = ((plN v p + 1 : Nat) : Int) := IntWalk.i64_in _ ⟨by omega, by omega⟩
            have l1 : (((plN v p : Nat) : Int) ≤ (v.parts.length : Int)) = True := eq_true (by omega)
            have l2 : (((plN v p + 1 : Nat) : Int) ≤ (v.parts.length : Int)) = True := eq_true (by omega)
            have l3 : (∀ d, d ∈ List.map encV v.parts → d.cells.length = 6) = True := eq_true fun d hd => by obtain ⟨q, _, rfl⟩ := List.mem_map.1 hd; exact cells_encV q
            have g1 : ∀ j a, j < T.next → (T.grow .full 29 a).ob j = T.ob j := fun j a h => grow_skip (by omega) (fun _ h => by cases h)
            have g2 : ∀ j a b, j < T.next → ((T.grow .full 29 a).grow (.row T.next) 29 b).ob j = T.ob j := fun j a b h => (grow_skip (by rw [grow_next]; omega) (fun g h => by injection h with h; omega)).trans (g1 j a h)
            have g3 : ∀ j a b c, j < T.next → (((T.grow .full 29 a).grow (.row T.next) 29 b).grow (.row (T.next + 1)) 29 c).ob j = T.ob j := fun j a b c h => (grow_skip (by rw [grow_next, grow_next]; omega) (fun g h => by injection h with h; omega)).trans (g2 j a b h)
            have yB : ∀ a b c, (((T.grow .full 29 a).grow (.row T.next) 29 b).grow (.row (T.next + 1)) 29 c).ob (tn) = some (.box 29 (encV v).cells) := fun a b c => (g3 _ _ _ _ (by omega)).trans tB
            have y6 : ∀ a b c, (((T.grow .full 29 a).grow (.row T.next) 29 b).grow (.row (T.next + 1)) 29 c).ob (S.next + 1 + 1) = some (.box 29 [.v (.int .i64 0), .v (.int .i64 0), .v (.string ⟨#[]⟩), .sl .full [], .sl .full [], .sl .full []]) := fun a b c => (g3 _ _ _ _ (by omega)).trans t6
            have cv : (encV v).cells = [.v (.int .i64 v.kind), .v (.int .i64 v.n), strD v.s, .sl .no (v.names.map strD), .sl .no (v.ids.map u64D), .sl .no (v.parts.map encV)] := by rw [encV_eq]; rfl
            refine ddraw_any (fun S' => S'.ob S.next = some (.box 29 (encV v).cells) ∧ S'.ob (S.next + 1 + 1 + 1 + 1) = some (.box 29 (encV y).cells)) 16 (by (first | (simp (disch := first | decide | omega | (simp only [nx]; first | done | omega)) only [go_sem, Nat.reduceMul, t0, t4]; first | done | rfl) | rfl)) (by kernel_rfl) ?_
            (refine s_take 0 rfl (by kernel_rfl) (by kernel_rfl) (v := ?v46) (fun S' hz => dquietR_of ?h46) <| s_take 1 rfl (by kernel_rfl) (by kernel_rfl) (v := ?v47) (fun S' hz => dquietR_of ?h47) <| s_take 2 rfl (by kernel_rfl) (by kernel_rfl) (v := ?v48) (fun S' hz => dquietR_of ?h48) <| s_take 3 rfl (by kernel_rfl) (by kernel_rfl) (v := ?v49) (fun S' hz => dquietR_of ?h49) <| ?k49; (case h46 | h47 | h48 | h49 => ((simp (disch := first | decide | omega | (simp only [nx]; first | done | omega)) only [go_sem, Nat.reduceMul, q2, q3, q6, q7, q10, q12, w2, gdV5, hz]; (repeat (with_reducible refine And.intro (by first | omega | assumption | rfl) ?_))); first | done | exact rfl | omega)))
            (refine s_take 4 rfl (by kernel_rfl) (by kernel_rfl) (v := .sl .no ((v.parts.map encV).take (plN v p))) (fun S' hz => dquietR_of (by (simp (disch := first | decide | omega | (simp only [nx]; first | done | omega)) only [go_sem, Nat.reduceMul, q2, q3, q6, q7, q10, q12, w2, l1, true_or]; (repeat (with_reducible refine And.intro (by first | omega | assumption | rfl) ?_))); first | done | rfl | omega)) ?_)
            (refine s_take 6 rfl (by kernel_rfl) (by kernel_rfl) (v := ?v50) (fun S' hz => dquietR_of ?h50) <| s_take 7 rfl (by kernel_rfl) (by kernel_rfl) (v := ?v51) (fun S' hz => dquietR_of ?h51) <| s_take 9 rfl (by kernel_rfl) (by kernel_rfl) (v := ?v52) (fun S' hz => dquietR_of ?h52) <| s_take 10 rfl (by kernel_rfl) (by kernel_rfl) (v := ?v53) (fun S' hz => dquietR_of ?h53) <| s_take 11 rfl (by kernel_rfl) (by kernel_rfl) (v := ?v54) (fun S' hz => dquietR_of ?h54) <| s_take 12 rfl (by kernel_rfl) (by kernel_rfl) (v := ?v55) (fun S' hz => dquietR_of ?h55) <| ?k55; (case h50 | h51 | h52 | h53 | h54 | h55 => ((simp (disch := first | decide | omega | (simp only [nx]; first | done | omega)) only [go_sem, Nat.reduceMul, q2, q3, q6, q7, q10, q12, w2, gdV5, hz]; (repeat (with_reducible refine And.intro (by first | omega | assumption | rfl) ?_))); first | done | exact rfl | omega)))
            (refine s_take 13 rfl (by kernel_rfl) (by kernel_rfl) (v := .sl .no ((v.parts.map encV).drop (plN v p + 1))) (fun S' hz => dquietR_of (by (simp (disch := first | decide | omega | (simp only [nx]; first | done | omega)) only [go_sem, Nat.reduceMul, q2, q3, q6, q7, q10, q12, w2, l2, l3, or_true]; (repeat (with_reducible refine And.intro (by first | omega | assumption | rfl) ?_))); first | done | rfl | omega)) ?_)
            (refine s_split [5] (by kernel_rfl) (by simp) ?_; intro j_ hj_; obtain rfl : j_ = 5 := (by simpa using hj_); clear hj_; refine s_op rfl ?_; (simp (disch := first | decide | omega | (simp only [nx]; first | done | omega)) only [go_sem, Nat.reduceMul]; (repeat (with_reducible refine And.intro (by first | omega | assumption | rfl) ?_))))
            refine dapp_more heV (by kernel_rfl) (.inl rfl) (fun _ h => by cases h) (fun d hd => wV v.parts d (List.mem_of_mem_take hd)) (by simp only [List.length_take, List.length_map, List.length_nil]; omega) (by simp only [hbV, List.length_take, List.length_map, List.length_nil]; omega) ?_
            refine ⟨⟨(g1 _ _ (by omega)).trans t0, (g1 _ _ (by omega)).trans t4⟩, ?_⟩
            (refine s_split [8] (by kernel_rfl) (by simp) ?_; intro j_ hj_; obtain rfl : j_ = 8 := (by simpa using hj_); clear hj_; refine s_op rfl ?_; (simp (disch := first | decide | omega | (simp only [nx]; first | done | omega)) only [go_sem, Nat.reduceMul]; (repeat (with_reducible refine And.intro (by first | omega | assumption | rfl) ?_))))
            refine dapp_more heV (by kernel_rfl) (.inr ⟨_, rfl, ?_⟩) (fun d hd => wV v.parts d (List.mem_of_mem_take hd)) (fun d hd => by obtain rfl := List.mem_singleton.1 hd; rw [hzV]; exact cells_encV y) (by simp only [List.length_take, List.length_map, List.length_nil, List.length_cons]; omega) (by simp only [hbV, List.length_take, List.length_map, List.length_nil, List.length_cons]; omega) ?_
            · exact grow_hit
            refine ⟨⟨(g2 _ _ _ (by omega)).trans t0, (g2 _ _ _ (by omega)).trans t4⟩, ?_⟩
            (refine s_split [14] (by kernel_rfl) (by simp) ?_; intro j_ hj_; obtain rfl : j_ = 14 := (by simpa using hj_); clear hj_; refine s_op rfl ?_; (simp (disch := first | decide | omega | (simp only [nx]; first | done | omega)) only [go_sem, Nat.reduceMul]; (repeat (with_reducible refine And.intro (by first | omega | assumption | rfl) ?_))))
            refine dapp_more heV (by kernel_rfl) (.inr ⟨_, rfl, ?_⟩) (fun d hd => ?_) (fun d hd => wV v.parts d (List.mem_of_mem_drop hd)) (by simp only [List.length_take, List.length_drop, List.length_append, List.length_map, List.length_nil, List.length_cons]; omega) (by simp only [hbV, List.length_take, List.length_drop, List.length_append, List.length_map, List.length_nil, List.length_cons]; omega) ?_
            · have hh := grow_hit (S := T.grow .full 29 (List.take (plN v p) (List.map encV v.parts)).length) (own := .row T.next) (e := 29) (n := (List.take (plN v p) (List.map encV v.parts)).length + [encV y].length)
              rw [grow_next] at hh
              simp only [List.length_append]
              exact hh
            · rcases List.mem_append.1 hd with hd | hd
              · exact wV v.parts d (List.mem_of_mem_take hd)
              · obtain rfl := List.mem_singleton.1 hd; rw [hzV]; exact cells_encV y
            refine ⟨⟨(g3 _ _ _ _ (by omega)).trans t0, (g3 _ _ _ _ (by omega)).trans t4⟩, ?_⟩
            (refine s_take 15 rfl (by kernel_rfl) (by kernel_rfl) (v := ?v56) (fun S' hz => dquietR_of ?h56) ?k56; (case h56 => ((simp (disch := first | decide | omega | (simp only [nx]; first | done | omega)) only [go_sem, Nat.reduceMul, q2, q3, q6, q7, q10, q12, hz]; (repeat (with_reducible refine And.intro (by first | omega | assumption | rfl) ?_))); first | done | exact rfl | omega)))
            (refine s_done (by kernel_rfl) ?_; (simp (disch := first | decide | omega | (simp only [nx]; first | done | omega)) only [go_sem, Nat.reduceMul, q2, q3, q6, q7, q10, q12, yB, y6, cv]; (repeat (with_reducible refine And.intro (by first | omega | assumption | rfl) ?_))))
            have hcc : List.take (plN v p) (List.map encV v.parts) ++ [encV y] ++ List.drop (plN v p + 1) (List.map encV v.parts) = (v.parts.set (plN v p) y).map encV := by
              rw [List.map_set, List.set_eq_take_append_cons_drop, if_pos (by rw [List.length_map]; exact hpl)]; simp
            rw [hcc, hch, hget, hgp]
            refine ⟨?_, ?_⟩
            · simp only [D.frz, frzL, frz_strs, frz_u64s, frz_mapV, sv]
              rw [encV_eq (v.withParts _)]; rfl
            · have hTx := hTs.next
              refine ⟨by show S.next ≤ T.next + 1 + 1 + 1; omega, fun j ob e => ?_⟩
              have hj := hS.lt e
              simp only [St.set]
              rw [if_neg (by omega), if_neg (by omega), g3 _ _ _ _ (by omega)]
              exact hTs.ob _ _ e

          · have b3 : (!(v.names[i] == p.1)) = true := by simp [hx]
            (simp (disch := first | decide | omega | (simp only [nx]; first | done | omega)) only [go_sem, Nat.reduceMul, q2, q3, q12, b3, w1]; (repeat (with_reducible refine And.intro (by first | omega | assumption | rfl) ?_)))
            refine ddraw_mk 10 (by kernel_rfl) ?_
            (simp (disch := first | decide | omega | (simp only [nx]; first | done | omega)) only [go_sem, Nat.reduceMul, q2, q3, q12, b3, hlt, w1]; (repeat (with_reducible refine And.intro (by first | omega | assumption | rfl) ?_)))
            (refine ⟨by omega, (by (repeat' first | assumption | exact St.Sub.refl _ | exact RowOk.sub (by assumption) (by assumption) | refine St.Sub.trans ?_ (RowOk.sub (by assumption) (by assumption)) | refine St.Sub.add ?_ ?_ _ | refine St.Sub.set ?_ ?_ ?_ _ | refine St.Sub.keep ?_ ?_ | refine St.WF.leave ?_ _ | refine St.WF.add ?_ _ | refine St.WF.set ?_ ?_ _ | refine St.WF.grow ?_ _ _ _ | refine St.WF.keep ?_ ?_ | (first | omega | (simp only [RowOk.lo, nx]; first | done | omega)))), ?_⟩; refine ⟨by omega, ?_, ?_⟩; all_goals (try (first | (simp (disch := first | decide | omega | (simp only [nx]; first | done | omega)) only [go_sem, Nat.reduceMul, w1]; first | done | rfl) | rfl)))
            exact ixN_step hno hlt hx
    · have hg1 : getD_ v [p] = .tup [encV zeroV, .v (.bool false)] := by
        rw [getD_, show getV [p] v = stepG v p from rfl, stepG_eq, if_neg hin]; rfl
      (refine ddraw_any (fun S' => S'.ob S.next = some (.box 29 (encV v).cells)) 10 (by (first | (simp (disch := first | decide | omega | (simp only [nx]; first | done | omega)) only [go_sem, Nat.reduceMul, hg1]; first | done | rfl) | rfl)) (by kernel_rfl) ?_; refine s_take 0 rfl (by kernel_rfl) (by kernel_rfl) (v := ?v27) (fun S' hz => dquietR_of ?h27) <| s_take 1 rfl (by kernel_rfl) (by kernel_rfl) (v := ?v28) (fun S' hz => dquietR_of ?h28) <| s_take 2 rfl (by kernel_rfl) (by kernel_rfl) (v := ?v29) (fun S' hz => dquietR_of ?h29) <| ?k29; (case h27 | h28 | h29 => ((simp (disch := first | decide | omega | (simp only [nx]; first | done | omega)) only [go_sem, Nat.reduceMul, hg1, hz]; (repeat (with_reducible refine And.intro (by first | omega | assumption | rfl) ?_))); first | done | exact rfl | omega)); refine s_take 3 rfl (by kernel_rfl) (by kernel_rfl) (v := ?v30) (fun S' hz => dquietR_of ?h30) ?k30; (case h30 => ((simp (disch := first | decide | omega | (simp only [nx]; first | done | omega)) only [go_sem, Nat.reduceMul, hg1, hz]; (repeat (with_reducible refine And.intro (by first | omega | assumption | rfl) ?_))); refine dqgo_mk (refGet_d v [p] _ hok hw (by simp)) ?_; exact rfl)); refine s_take 4 rfl (by kernel_rfl) (by kernel_rfl) (v := ?v31) (fun S' hz => dquietR_of ?h31) <| s_take 5 rfl (by kernel_rfl) (by kernel_rfl) (v := ?v32) (fun S' hz => dquietR_of ?h32) <| s_take 6 rfl (by kernel_rfl) (by kernel_rfl) (v := ?v33) (fun S' hz => dquietR_of ?h33) <| ?k33; (case h31 | h32 | h33 => ((simp (disch := first | decide | omega | (simp only [nx]; first | done | omega)) only [go_sem, Nat.reduceMul, hg1, hz]; (repeat (with_reducible refine And.intro (by first | omega | assumption | rfl) ?_))); first | done | exact rfl | omega)); refine s_split [7] (by kernel_rfl) (by simp) ?_; intro j_ hj_; obtain rfl : j_ = 7 := (by simpa using hj_); clear hj_; refine s_op rfl ?_; (simp (disch := first | decide | omega | (simp only [nx]; first | done | omega)) only [go_sem, Nat.reduceMul, hg1]; (repeat (with_reducible refine And.intro (by first | omega | assumption | rfl) ?_))); refine s_split [8] (by kernel_rfl) (by simp) ?_; intro j_ hj_; obtain rfl : j_ = 8 := (by simpa using hj_); clear hj_; refine s_op rfl ?_; (simp (disch := first | decide | omega | (simp only [nx]; first | done | omega)) only [go_sem, Nat.reduceMul, hg1]; (repeat (with_reducible refine And.intro (by first | omega | assumption | rfl) ?_))); refine s_take 9 rfl (by kernel_rfl) (by kernel_rfl) (v := ?v34) (fun S' hz => dquietR_of ?h34) ?k34; (case h34 => ((simp (disch := first | decide | omega | (simp only [nx]; first | done | omega)) only [go_sem, Nat.reduceMul, hg1, hz]; (repeat (with_reducible refine And.intro (by first | omega | assumption | rfl) ?_))); first | done | exact rfl | omega)); refine s_done (by kernel_rfl) ?_; (simp (disch := first | decide | omega | (simp only [nx]; first | done | omega)) only [go_sem, Nat.reduceMul, hg1]; (repeat (with_reducible refine And.intro (by first | omega | assumption | rfl) ?_))))
      refine ⟨?_, (by (repeat' first | assumption | exact St.Sub.refl _ | exact RowOk.sub (by assumption) (by assumption) | refine St.Sub.trans ?_ (RowOk.sub (by assumption) (by assumption)) | refine St.Sub.add ?_ ?_ _ | refine St.Sub.set ?_ ?_ ?_ _ | refine St.Sub.keep ?_ ?_ | refine St.WF.leave ?_ _ | refine St.WF.add ?_ _ | refine St.WF.set ?_ ?_ _ | refine St.WF.grow ?_ _ _ _ | refine St.WF.keep ?_ ?_ | (first | omega | (simp only [RowOk.lo, nx]; first | done | omega))))⟩
      have hgn : getV (p :: ps) v = none := by rw [getV_cons, if_neg hin]
      rw [chV_none _ _ hgn, hgn]
      simp only [D.frz, frzL, frz_encV]
      rfl
end Go.Proofs.YtjjhjhjphhpeiaaGreatDoor

namespace Go.Proofs.YtjjhjhjphhpeiaaGreatDoor
open Go.RowKit
set_option linter.unusedSimpArgs false
set_option linter.unusedVariables false
theorem inP_set {v : DVal} {p : DStp} {i : Nat} {y : DVal} : inP (v.withParts (v.parts.set i y)) p ↔ inP v p := by
  have h := place_wp v (v.parts.set i y) (by simp) p
  have hl : (v.withParts (v.parts.set i y)).parts.length = v.parts.length := List.length_set
  unfold inP
  rw [h, hl]
theorem plN_set {v : DVal} {p : DStp} {i : Nat} {y : DVal} : plN (v.withParts (v.parts.set i y)) p = plN v p := by
  unfold plN; rw [place_wp v _ (by simp) p]
theorem inP_lt {v : DVal} {p : DStp} (h : inP v p) : plN v p < v.parts.length := by have := h.1; have := h.2; unfold plN; omega
theorem chV_app (f : DVal → DVal) : ∀ (p q : List DStp) (v : DVal), chV f (p ++ q) v = chV (chV f q) p v
  | [], q, v => rfl
  | p :: ps, q, v => by
    rw [List.cons_append, chV, chV]
    split
    · rw [chV_app f ps q]
    · rfl
/-- What is put stands there. -/
theorem getV_put {y : DVal} : ∀ (p : List DStp) {v x : DVal}, getV p v = some x → getV p (chV (fun _ => y) p v) = some y
  | [], v, x, _ => rfl
  | p :: ps, v, x, h => by
    rw [getV_cons] at h
    split at h
    · rename_i hin
      have hl := inP_lt hin
      rw [getD_at hl] at h
      rw [chV, if_pos hin, getD_at hl, getV_cons, if_pos (inP_set.2 hin), plN_set]
      show getV ps ((v.parts.set (plN v p) _).getD (plN v p) default) = some y
      rw [getD_at (by rw [List.length_set]; exact hl), List.getElem_set_self]
      exact getV_put ps h
    · cases h
/-- What is put twice is put once. -/
theorem chV_twice {f : DVal → DVal} {y : DVal} : ∀ (p : List DStp) {v x : DVal}, getV p v = some x → chV f p (chV (fun _ => y) p v) = chV (fun _ => f y) p v
  | [], v, x, _ => rfl
  | p :: ps, v, x, h => by
    rw [getV_cons] at h
    split at h
    · rename_i hin
      have hl := inP_lt hin
      rw [getD_at hl] at h
      rw [chV.eq_2 (fun _ => y), if_pos hin, getD_at hl, chV, if_pos (inP_set.2 hin), plN_set, chV.eq_2 (fun _ => f y), if_pos hin, getD_at hl]
      show (v.withParts _).withParts (((v.parts.set (plN v p) _)).set (plN v p) (chV f ps ((v.parts.set (plN v p) _).getD (plN v p) default))) = _
      rw [getD_at (by rw [List.length_set]; exact hl), List.getElem_set_self, List.set_set, chV_twice ps h]
      rfl
    · cases h
/-- What stands there, put there. -/
theorem chV_same : ∀ (p : List DStp) {v x : DVal}, getV p v = some x → chV (fun _ => x) p v = v
  | [], v, x, h => by injection h with h; exact h.symm
  | p :: ps, v, x, h => by
    rw [getV_cons] at h
    split at h
    · rename_i hin
      have hl := inP_lt hin
      rw [getD_at hl] at h
      rw [chV, if_pos hin, getD_at hl, chV_same ps h, List.set_getElem_self, withParts_same]
    · cases h
/-- One function in a place, of what stands there. -/
theorem chV_at {f : DVal → DVal} : ∀ (p : List DStp) {v x : DVal}, getV p v = some x → chV f p v = chV (fun _ => f x) p v
  | [], v, x, h => by injection h with h; subst h; rfl
  | p :: ps, v, x, h => by
    rw [getV_cons] at h
    split at h
    · rename_i hin
      have hl := inP_lt hin
      rw [getD_at hl] at h
      rw [chV, if_pos hin, getD_at hl, chV.eq_2 (fun _ => f x), if_pos hin, getD_at hl, chV_at ps h]
    · cases h
end Go.Proofs.YtjjhjhjphhpeiaaGreatDoor

namespace Go.Proofs.YtjjhjhjphhpeiaaGreatDoor
open Go.RowKit
set_option linter.unusedSimpArgs false
set_option linter.unusedVariables false
/-- A round over a list's elements: the operations, and the list that is then. -/
def lsRound (f : List DStp → DVal → DVal → List DOp) (p : List DStp) (a b : DVal) (i : Nat) (now : List Nat) : List DOp × List Nat :=
  if b.ids.getD i 0 ∉ a.ids then ([⟨2, p, b.ids.getD i 0, if i = 0 then 0 else b.ids.getD (i - 1) 0, b.parts.getD i default⟩], now.take i ++ [b.ids.getD i 0] ++ now.drop i)
  else if now.getD i 0 ≠ b.ids.getD i 0 then
    (⟨4, p, b.ids.getD i 0, if i = 0 then 0 else b.ids.getD (i - 1) 0, zeroV⟩ :: f (p ++ [([], b.ids.getD i 0)]) (a.parts.getD (ixN a.ids (b.ids.getD i 0)) default) (b.parts.getD i default),
      ((now.take (ixN now (b.ids.getD i 0)) ++ now.drop (ixN now (b.ids.getD i 0) + 1)).take i) ++ [b.ids.getD i 0] ++ (now.take (ixN now (b.ids.getD i 0)) ++ now.drop (ixN now (b.ids.getD i 0) + 1)).drop i)
  else (f (p ++ [([], b.ids.getD i 0)]) (a.parts.getD (ixN a.ids (b.ids.getD i 0)) default) (b.parts.getD i default), now)
def lsDel (p : List DStp) (a b : DVal) : List DOp := (a.ids.filter (fun id => decide (id ∉ b.ids))).map fun id => ⟨3, p, id, 0, zeroV⟩
def lsOps (f : List DStp → DVal → DVal → List DOp) (p : List DStp) (a b : DVal) : Nat → List DOp × List Nat
  | 0 => (lsDel p a b, a.ids.filter (fun id => decide (id ∈ b.ids)))
  | i + 1 => ((lsOps f p a b i).1 ++ (lsRound f p a b i (lsOps f p a b i).2).1, (lsRound f p a b i (lsOps f p a b i).2).2)
/-- The operations between two values of one type. -/
noncomputable def dOps : Nat → List DStp → DVal → DVal → List DOp
  | 0, _, _, _ => []
  | k + 1, p, a, b => if eqB a b = true then []
    else if a.kind = 5 then (List.range a.names.length).flatMap fun i => dOps k (p ++ [(a.names.getD i [], 0)]) (a.parts.getD i default) (b.parts.getD i default)
    else if a.kind = 6 then (lsOps (dOps k) p a b b.ids.length).1
    else [⟨1, p, 0, 0, b⟩]
theorem GV.right {v : DVal} {s : DSch} (h : GV v s) (hd : s.depth ≤ 5) : rightV 5 v = true := by
  have h1 := GV.depth s.depth (Nat.le_refl _) h
  have h2 := (h.sound v.depth).1
  rw [right_soundV 5 v v.depth (Nat.le_refl _), h2, decide_eq_true (by omega)]; rfl
/-- What a place in a value that fits is. -/
structure At (s : DSch) (v : DVal) (p : List DStp) (t : DSch) (a : DVal) : Prop where
  rs : rightS 5 s = true
  gv : GV v s
  ty : typS p s = some t
  get : getV p v = some a
  rp : p.all fineB = true
theorem At.ga {s : DSch} {v : DVal} {p : List DStp} {t : DSch} {a : DVal} (h : At s v p t a) : GV a t ∧ RS t ∧ t.depth + p.length ≤ s.depth := GV.get p h.gv (RS.of_top h.rs).1 h.ty h.get
theorem At.depth {s : DSch} {v : DVal} {p : List DStp} {t : DSch} {a : DVal} (h : At s v p t a) : t.depth + p.length ≤ 5 := by
  have := (RS.of_top h.rs).2
  have := h.ga.2.2
  omega
theorem At.right {s : DSch} {v : DVal} {p : List DStp} {t : DSch} {a : DVal} (h : At s v p t a) : rightP p = true := by
  have := h.depth
  rw [rightP, h.rp, decide_eq_true (by omega)]; rfl
theorem At.top {s : DSch} {v : DVal} {p : List DStp} {t : DSch} {a : DVal} (h : At s v p t a) : rightS 5 t = true := rightS_of h.ga.2.1 (by have := h.depth; omega)
theorem At.put {s : DSch} {v : DVal} {p : List DStp} {t : DSch} {a b : DVal} (h : At s v p t a) (hb : GV b t) : At s (chV (fun _ => b) p v) p t b :=
  ⟨h.rs, GV.put p h.gv (RS.of_top h.rs).1 h.ty h.get hb, h.ty, getV_put p h.get, h.rp⟩
/-- One operation in a place: it fits, and this is what it makes. -/
theorem At.op {s : DSch} {v : DVal} {p : List DStp} {t : DSch} {a : DVal} (h : At s v p t a) {o : DOp} (hp : o.path = p) (hr : rightO o = true) (hf : fitO o t = true) : chkO o s = 0 ∧ apS s v o = chV (fun _ => mdV o a) p v := by
  have hc : chkO o s = 0 := by rw [chkO, if_pos ⟨hr, h.rs⟩, hp, h.ty]; simp [hf]
  refine ⟨hc, ?_⟩
  rw [apS, if_pos hc, apV, hp, h.get]
theorem At.set {s : DSch} {v : DVal} {p : List DStp} {t : DSch} {a b : DVal} (h : At s v p t a) (hb : GV b t) : chkO ⟨1, p, 0, 0, b⟩ s = 0 ∧ apS s v ⟨1, p, 0, 0, b⟩ = chV (fun _ => b) p v := by
  have hd := h.depth
  have hr : rightO ⟨1, p, 0, 0, b⟩ = true := by
    rw [rightO, if_pos rfl, h.right, hb.right (by omega)]; rfl
  have hf : fitO ⟨1, p, 0, 0, b⟩ t = true := by
    rw [fitO, if_pos rfl]; exact fitsTop_iff.2 ⟨h.top, hb⟩
  have := h.op (o := ⟨1, p, 0, 0, b⟩) rfl hr hf
  rwa [mdV, if_pos rfl] at this
end Go.Proofs.YtjjhjhjphhpeiaaGreatDoor

namespace Go.Proofs.YtjjhjhjphhpeiaaGreatDoor
open Go.RowKit
set_option linter.unusedSimpArgs false
set_option linter.unusedVariables false
section
variable {s t : DSch} {v a b x : DVal} {p : List DStp} {id after : Nat}
theorem rightO_del (h : At s v p t a) (hi : id ≠ 0) : rightO ⟨3, p, id, 0, zeroV⟩ = true := by
  rw [rightO, if_neg (by simp), if_neg (by simp), if_pos rfl, h.right, eqB_true rfl, decide_eq_true hi]; rfl
theorem rightO_move (h : At s v p t a) (hi : id ≠ 0) (ha : id ≠ after) : rightO ⟨4, p, id, after, zeroV⟩ = true := by
  rw [rightO, if_neg (by simp), if_neg (by simp), if_neg (by simp), if_pos rfl, h.right, eqB_true rfl, decide_eq_true hi]
  rw [decide_eq_true (show (DOp.mk 4 p id after zeroV).id ≠ (DOp.mk 4 p id after zeroV).after from ha)]; rfl
theorem rightO_ins (h : At s v p t a) (hi : id ≠ 0) (ha : id ≠ after) (hx : rightV 5 x = true) : rightO ⟨2, p, id, after, x⟩ = true := by
  rw [rightO, if_neg (by simp), if_pos rfl, h.right, decide_eq_true hi]
  rw [decide_eq_true (show (DOp.mk 2 p id after x).id ≠ (DOp.mk 2 p id after x).after from ha)]
  show (true && ((true && true) && rightV 5 x)) = true
  rw [hx]; rfl
theorem At.del (h : At s v p t a) (h6 : t.kind = 6) (hi : id ∈ a.ids) : chkO ⟨3, p, id, 0, zeroV⟩ s = 0 ∧ apS s v ⟨3, p, id, 0, zeroV⟩ = chV (fun _ => tkV a (ixN a.ids id)) p v := by
  have hl := h.ga.1.list h6
  have h0 : id ≠ 0 := fun e => hl.zero (e ▸ hi)
  have := h.op (o := ⟨3, p, id, 0, zeroV⟩) rfl (rightO_del h h0) (by rw [fitO, if_neg (by simp), if_pos h6, if_neg (by simp)])
  rw [mdV, if_neg (by simp), lsV, if_neg (by simp), if_neg (by simpa using hi), if_neg (by simp)] at this
  exact this
theorem At.move (h : At s v p t a) (h6 : t.kind = 6) (hi : id ∈ a.ids) (ha : id ≠ after) : chkO ⟨4, p, id, after, zeroV⟩ s = 0 ∧ apS s v ⟨4, p, id, after, zeroV⟩ = chV (fun _ => plV (tkV a (ixN a.ids id)) id after (a.parts.getD (ixN a.ids id) default)) p v := by
  have hl := h.ga.1.list h6
  have h0 : id ≠ 0 := fun e => hl.zero (e ▸ hi)
  have := h.op (o := ⟨4, p, id, after, zeroV⟩) rfl (rightO_move h h0 ha) (by rw [fitO, if_neg (by simp), if_pos h6, if_neg (by simp)])
  rw [mdV, if_neg (by simp), lsV, if_neg (by simp), if_neg (by simpa using hi), if_pos rfl] at this
  exact this
theorem At.ins (h : At s v p t a) (h6 : t.kind = 6) (hi : id ∉ a.ids) (h0 : id ≠ 0) (ha : id ≠ after) (h12 : a.ids.length < 12) (hx : GV x (t.parts.getD 0 default)) : chkO ⟨2, p, id, after, x⟩ s = 0 ∧ apS s v ⟨2, p, id, after, x⟩ = chV (fun _ => plV a id after x) p v := by
  have hd := h.depth
  have hp := h.ga.2.1.here.2 h6
  have hp0 : 0 < t.parts.length := by omega
  have hd0 := DSch.depth_part (List.getElem_mem hp0)
  have hx' := hx
  rw [getD_at hp0] at hx'
  have hRt : RS t.parts[0] := h.ga.2.1.part (List.getElem_mem hp0)
  have hft : fitsTop x (t.parts.getD 0 default) = true := by
    rw [getD_at hp0]; exact fitsTop_iff.2 ⟨rightS_of hRt (by omega), hx'⟩
  have := h.op (o := ⟨2, p, id, after, x⟩) rfl (rightO_ins h h0 ha (hx'.right (by omega))) (by rw [fitO, if_neg (by simp), if_pos h6, if_pos rfl]; exact hft)
  rw [mdV, if_neg (by simp), lsV, if_pos rfl, if_pos ⟨hi, h12⟩] at this
  exact this
/-- A part of what stands in a place. -/
theorem At.sub (h : At s v p t a) {q : DStp} {u : DSch} (hq : stepT t q = some u) (hin : inP a q) (hf : fineB q = true) : ∃ hi : plN a q < a.parts.length, At s v (p ++ [q]) u a.parts[plN a q] ∧ ∀ y, chV (fun _ => y) (p ++ [q]) v = chV (fun _ => a.withParts (a.parts.set (plN a q) y)) p v := by
  have hi := inP_lt hin
  refine ⟨hi, ⟨h.rs, h.gv, ?_, ?_, ?_⟩, fun y => ?_⟩
  · rw [typS_app, h.ty]
    show typS [q] t = some u
    rw [typS_cons, hq]; rfl
  · rw [getV_app, h.get]
    show getV [q] a = some a.parts[plN a q]
    rw [getV_cons, if_pos hin, getD_at hi]; rfl
  · rw [List.all_append, h.rp]; simp [hf]
  · rw [chV_app, chV_at p h.get]
    congr 1
    funext _
    rw [chV, if_pos hin]; rfl
end
end Go.Proofs.YtjjhjhjphhpeiaaGreatDoor

namespace Go.Proofs.YtjjhjhjphhpeiaaGreatDoor
open Go.RowKit
set_option linter.unusedSimpArgs false
set_option linter.unusedVariables false
/-- Operations that fit lead from one value to another one. -/
structure Leads (s : DSch) (v : DVal) (l : List DOp) (w : DVal) : Prop where
  fit : ∀ o ∈ l, chkO o s = 0
  ends : l.foldl (apS s) v = w
theorem Leads.nil (s : DSch) (v : DVal) : Leads s v [] v := ⟨fun o h => (by cases h), rfl⟩
theorem Leads.app {s : DSch} {v w u : DVal} {l m : List DOp} (h : Leads s v l w) (g : Leads s w m u) : Leads s v (l ++ m) u :=
  ⟨fun o ho => (List.mem_append.1 ho).elim (h.fit o) (g.fit o), by rw [List.foldl_append, h.ends, g.ends]⟩
theorem Leads.one {s : DSch} {v w : DVal} {o : DOp} (h : chkO o s = 0 ∧ apS s v o = w) : Leads s v [o] w :=
  ⟨fun q hq => by rw [List.mem_singleton] at hq; subst hq; exact h.1, h.2⟩
/-- What is to be shown of all values of a depth. -/
def LeadAt (k : Nat) : Prop := ∀ (s t : DSch) (v a b : DVal) (p : List DStp), a.depth ≤ k → At s v p t a → GV b t → Leads s v (dOps k p a b) (chV (fun _ => b) p v)
/-- A record, so many fields the other one's. -/
def mixR (a b : DVal) (i : Nat) : DVal := a.withParts (b.parts.take i ++ a.parts.drop i)
theorem mixR_zero (a b : DVal) : mixR a b 0 = a := by unfold mixR; rw [List.take_zero, List.drop_zero, List.nil_append, withParts_same]
theorem mixR_len {a b : DVal} (h : b.parts.length = a.parts.length) {i : Nat} (hi : i ≤ a.parts.length) : (mixR a b i).parts.length = a.parts.length := by
  show (b.parts.take i ++ a.parts.drop i).length = _
  rw [List.length_append, List.length_take, List.length_drop]; omega
theorem mixR_succ {a b : DVal} (h : b.parts.length = a.parts.length) {i : Nat} (hi : i < a.parts.length) : (mixR a b i).withParts ((mixR a b i).parts.set i (b.parts.getD i default)) = mixR a b (i + 1) := by
  have hib : i < b.parts.length := by omega
  show a.withParts ((b.parts.take i ++ a.parts.drop i).set i (b.parts.getD i default)) = a.withParts _
  have hl : (b.parts.take i).length = i := by rw [List.length_take]; omega
  rw [List.set_append_right _ _ (by omega), hl, Nat.sub_self, List.drop_eq_getElem_cons hi, List.set_cons_zero, getD_at hib, List.take_succ_eq_append_getElem hib, List.append_assoc]
  rfl
theorem mixR_at {a b : DVal} (h : b.parts.length = a.parts.length) {i : Nat} (hi : i < a.parts.length) : (mixR a b i).parts.getD i default = a.parts.getD i default := by
  show (b.parts.take i ++ a.parts.drop i).getD i default = _
  have hl : (b.parts.take i).length = i := by rw [List.length_take]; omega
  rw [getD_at (show i < (b.parts.take i ++ a.parts.drop i).length by rw [List.length_append, List.length_drop]; omega), getD_at hi, List.getElem_append_right (by omega)]
  simp [hl]
theorem GV.mix {a b : DVal} {t : DSch} (ha : GV a t) (hb : GV b t) (h : b.parts.length = a.parts.length) : ∀ i, i ≤ a.parts.length → GV (mixR a b i) t
  | 0, _ => by rw [mixR_zero]; exact ha
  | i + 1, hi => by
    have ih := GV.mix ha hb h i (by omega)
    have hl := mixR_len h (i := i) (by omega)
    rw [← mixR_succ h (by omega)]
    refine ih.set (by omega) ?_
    rw [getD_at (by omega)]
    exact hb.part (by omega)
/-- What a record that fits is. -/
structure GRec (v : DVal) (t : DSch) : Prop where
  kind : v.kind = 5
  n : v.n = 0
  s : v.s = []
  names : v.names = t.words
  ids : v.ids = []
  len : v.parts.length = v.names.length
theorem GV.recd {v : DVal} {t : DSch} (h : GV v t) (h5 : t.kind = 5) : GRec v t := by
  obtain ⟨b1, b2, b3, b4⟩ := here_parts h.here_
  have hk : v.kind = 5 := h.kind.trans h5
  unfold bad1 at b1
  unfold bad2 at b2
  have hn : v.names = t.words := by
    have := h.head
    rw [headF, Bool.and_eq_true, Bool.and_eq_true] at this
    have h2 := this.2.2
    rw [decide_eq_true (by omega : v.kind = 5)] at h2
    simpa using h2
  exact ⟨hk, by omega, List.eq_nil_of_length_eq_zero (by omega), hn, List.eq_nil_of_length_eq_zero (by omega), by omega⟩
theorem mixR_end {a b : DVal} {t : DSch} (ha : GV a t) (hb : GV b t) (h5 : t.kind = 5) : mixR a b a.parts.length = b := by
  have h1 := ha.recd h5
  have h2 := hb.recd h5
  have hl : b.parts.length = a.parts.length := by rw [h1.len, h2.len, h1.names, h2.names]
  unfold mixR
  rw [List.drop_length, List.append_nil, ← hl, List.take_length]
  obtain ⟨bk, bn, bs, bns, bis, bps⟩ := b
  have e1 := h2.kind; have e2 := h2.n; have e3 := h2.s; have e4 := h2.names; have e5 := h2.ids
  simp only [DVal.kind, DVal.n, DVal.s, DVal.names, DVal.ids] at e1 e2 e3 e4 e5
  subst e1 e2 e3 e4 e5
  show DVal.mk a.kind a.n a.s a.names a.ids bps = _
  rw [h1.kind, h1.n, h1.s, h1.names, h1.ids]
/-- The step to a field. -/
theorem field_step {a : DVal} {t : DSch} (ha : GV a t) (ht : RS t) (h5 : t.kind = 5) {i : Nat} (hi : i < a.parts.length) : ∃ u, stepT t (a.names.getD i [], 0) = some u ∧ inP a (a.names.getD i [], 0) ∧ plN a (a.names.getD i [], 0) = i ∧ fineB (a.names.getD i [], 0) = true := by
  have h1 := ha.recd h5
  have hin : i < a.names.length := by have := h1.len; omega
  have hs := place_step ha.rv hi
  have hst : stepV a i = (a.names.getD i [], 0) := by
    unfold stepV
    rw [if_pos h1.kind]
  rw [hst] at hs
  obtain ⟨b1, b2, b3, b4⟩ := here_parts ha.here_
  have hr := List.all_eq_true.1 b3 i (List.mem_range.2 hin)
  have hnm : nameB (a.names.getD i []) = true := by
    unfold riseOk at hr
    exact ((Bool.and_eq_true _ _).mp hr).1
  have hne : a.names.getD i [] ≠ [] := fun e => by rw [e] at hnm; exact absurd hnm (by decide)
  have hmem : a.names.getD i [] ∈ t.words := by
    rw [← h1.names, getD_at hin]; exact List.getElem_mem hin
  have hw : wholeS t = true := by
    have := ht.here.1 h5
    simp only [wholeS, Bool.and_eq_true, decide_eq_true_eq]
    omega
  refine ⟨t.parts.getD (ixN t.words (a.names.getD i [])) default, ?_, ⟨by rw [hs]; omega, by rw [hs]; omega⟩, by unfold plN; rw [hs]; simp, ?_⟩
  · rw [stepT, if_neg hne, fieldS, if_pos ⟨hw, hmem⟩]
  · rw [fineB, hnm]; rfl
/-- So many fields. -/
theorem lead_fields {k : Nat} (ih : LeadAt k) {s t : DSch} {v a b : DVal} {p : List DStp} (h5 : t.kind = 5) (hd : a.depth ≤ k + 1) (h : At s v p t a) (hb : GV b t) : ∀ i, i ≤ a.parts.length →
    Leads s v ((List.range i).flatMap fun i => dOps k (p ++ [(a.names.getD i [], 0)]) (a.parts.getD i default) (b.parts.getD i default)) (chV (fun _ => mixR a b i) p v)
  | 0, _ => by rw [mixR_zero, chV_same p h.get]; exact Leads.nil s v
  | i + 1, hi => by
    have ih' := lead_fields ih h5 hd h hb i (by omega)
    obtain ⟨ga, hRt, _⟩ := h.ga
    have h1 := ga.recd h5
    have h2 := hb.recd h5
    have hl : b.parts.length = a.parts.length := by rw [h1.len, h2.len, h1.names, h2.names]
    have gm := GV.mix ga hb hl i (by omega)
    have hml := mixR_len hl (i := i) (by omega)
    have hA := h.put gm
    have hnm : (mixR a b i).names = a.names := rfl
    obtain ⟨u, e1, e2, e3, e4⟩ := field_step gm hRt h5 (i := i) (by omega)
    rw [hnm] at e1 e2 e3 e4
    obtain ⟨hi', hS, hC⟩ := hA.sub e1 e2 e4
    have hpe : (mixR a b i).parts[plN (mixR a b i) (a.names.getD i [], 0)] = a.parts.getD i default := by
      have := mixR_at hl (i := i) (by omega)
      rw [getD_at (by omega)] at this
      simp only [e3]
      exact this
    rw [hpe] at hS
    have hai : i < a.parts.length := by omega
    have hbi : i < b.parts.length := by omega
    have hda : (a.parts.getD i default).depth ≤ k := by
      rw [getD_at hai]
      have := DVal.depth_part (List.getElem_mem hai)
      omega
    have hgb : GV (b.parts.getD i default) u := by
      obtain ⟨_, hu, _⟩ := gm.step hRt e2 e1
      rw [e3] at hu
      rw [← hu, getD_at hbi]
      exact hb.part hbi
    have hL := ih s u _ _ _ _ hda hS hgb
    rw [hC, chV_twice p h.get] at hL
    have e5 : (mixR a b i).withParts ((mixR a b i).parts.set (plN (mixR a b i) (a.names.getD i [], 0)) (b.parts.getD i default)) = mixR a b (i + 1) := by
      rw [e3]; exact mixR_succ hl (by omega)
    rw [e5] at hL
    rw [List.range_succ, List.flatMap_append, List.flatMap_cons, List.flatMap_nil, List.append_nil]
    exact ih'.app hL
theorem lead_rec {k : Nat} (ih : LeadAt k) {s t : DSch} {v a b : DVal} {p : List DStp} (h5 : t.kind = 5) (hd : a.depth ≤ k + 1) (h : At s v p t a) (hb : GV b t) :
    Leads s v ((List.range a.names.length).flatMap fun i => dOps k (p ++ [(a.names.getD i [], 0)]) (a.parts.getD i default) (b.parts.getD i default)) (chV (fun _ => b) p v) := by
  have h1 := h.ga.1.recd h5
  have := lead_fields ih h5 hd h hb a.parts.length (Nat.le_refl _)
  rw [mixR_end h.ga.1 hb h5] at this
  rw [← h1.len]
  exact this
end Go.Proofs.YtjjhjhjphhpeiaaGreatDoor

namespace Go.Proofs.YtjjhjhjphhpeiaaGreatDoor
open Go.RowKit
set_option linter.unusedSimpArgs false
set_option linter.unusedVariables false
/-- A list of these numbers, the parts by a function. -/
def aL (a : DVal) (ids : List Nat) (g : Nat → DVal) : DVal := a.ofList ids (ids.map g)
/-- The part of a number. -/
def pOf (a : DVal) (id : Nat) : DVal := a.parts.getD (ixN a.ids id) default
theorem parts_pOf {a : DVal} (hn : a.ids.Nodup) (hl : a.parts.length = a.ids.length) : a.ids.map (pOf a) = a.parts := by
  refine List.ext_getElem (by rw [List.length_map, hl]) fun i h1 h2 => ?_
  rw [List.getElem_map, pOf]
  have hi : i < a.ids.length := by rw [List.length_map] at h1; exact h1
  have : ixN a.ids a.ids[i] = i := idx_of_first hi fun j hj e => by
    exact absurd e (List.pairwise_iff_getElem.1 hn j i (by omega) hi hj)
  rw [this, getD_at h2]
theorem ofList_self' (v : DVal) : v.ofList v.ids v.parts = v := by cases v; rfl
theorem aL_self {a : DVal} (hn : a.ids.Nodup) (hl : a.parts.length = a.ids.length) : aL a a.ids (pOf a) = a := by
  rw [aL, parts_pOf hn hl, ofList_self']
theorem tkV_aL {a : DVal} {ids : List Nat} {g : Nat → DVal} {k : Nat} : tkV (aL a ids g) k = aL a (ids.take k ++ ids.drop (k + 1)) g := by
  show DVal.ofList _ _ _ = DVal.ofList _ _ _
  simp only [aL, DVal.ofList, DVal.ids, DVal.parts, DVal.kind, DVal.n, DVal.s, DVal.names, List.map_append, List.map_take, List.map_drop]
theorem plV_aL {a : DVal} {ids : List Nat} {g : Nat → DVal} {id after : Nat} {x : DVal} (hx : g id = x) : plV (aL a ids g) id after x = aL a (ids.take (plK (aL a ids g) after) ++ [id] ++ ids.drop (plK (aL a ids g) after)) g := by
  subst hx
  show DVal.ofList _ _ _ = DVal.ofList _ _ _
  simp only [aL, DVal.ofList, DVal.ids, DVal.parts, DVal.kind, DVal.n, DVal.s, DVal.names, List.map_append, List.map_take, List.map_drop, List.map_cons, List.map_nil]
theorem aL_congr {a : DVal} {ids : List Nat} {g g' : Nat → DVal} (h : ∀ i ∈ ids, g i = g' i) : aL a ids g = aL a ids g' := by
  unfold aL; rw [List.map_congr_left h]
theorem ix_of {l : List Nat} (hn : l.Nodup) {i : Nat} (hi : i < l.length) : ixN l l[i] = i := idx_of_first hi fun j hj e => absurd e (List.pairwise_iff_getElem.1 hn j i (by omega) hi hj)
/-- Behind the one ahead: where one comes in. -/
theorem plK_at {L : DVal} (hn : L.ids.Nodup) (h0 : 0 ∉ L.ids) {i : Nat} (hi : i ≤ L.ids.length) : plK L (if i = 0 then 0 else L.ids.getD (i - 1) 0) = i := by
  by_cases e : i = 0
  · rw [if_pos e, plK, if_pos rfl, e]
  · rw [if_neg e]
    have hlt : i - 1 < L.ids.length := by omega
    rw [getD_at hlt]
    have hm := List.getElem_mem hlt
    have hz : ¬ L.ids[i - 1] = 0 := fun h => h0 (by rw [← h]; exact hm)
    rw [plK, if_neg hz, if_pos hm, ix_of hn hlt]
    omega
/-- The parts that are the other one's already. -/
def mixG (a b : DVal) (i : Nat) (id : Nat) : DVal := if id ∈ a.ids ∧ id ∉ b.ids.take i then pOf a id else pOf b id
theorem mixG_end {a b : DVal} (hn : b.ids.Nodup) (hl : b.parts.length = b.ids.length) : aL a b.ids (mixG a b b.ids.length) = aL a b.ids (pOf b) :=
  aL_congr fun i hi => by rw [mixG, List.take_length, if_neg (fun h => h.2 hi)]
theorem GV.aL {a : DVal} {t : DSch} (h : GV a t) (ht : RS t) (h6 : t.kind = 6) {ids : List Nat} {g : Nat → DVal} (hn : ids.Nodup) (h0 : 0 ∉ ids) (h12 : ids.length ≤ 12) (hg : ∀ i ∈ ids, GV (g i) (t.parts.getD 0 default)) : GV (aL a ids g) t :=
  h.ofList ht h6 hn h0 h12 (by rw [List.length_map]) fun p hp => by obtain ⟨i, hi, rfl⟩ := List.mem_map.1 hp; exact hg i hi
theorem GV.pOf {a : DVal} {t : DSch} (h : GV a t) (h6 : t.kind = 6) {id : Nat} (hi : id ∈ a.ids) : GV (pOf a id) (t.parts.getD 0 default) := by
  have hl := h.list h6
  have hk : ixN a.ids id < a.parts.length := by rw [hl.len]; exact ix_lt hi
  rw [Go.Proofs.YtjjhjhjphhpeiaaGreatDoor.pOf, getD_at hk]
  exact hl.parts _ (List.getElem_mem hk)
theorem del_mid (F R : List Nat) (x : Nat) : (F ++ x :: R).take F.length ++ (F ++ x :: R).drop (F.length + 1) = F ++ R := by
  have h1 : (F ++ x :: R).take F.length = F := by simp
  have h2 : (F ++ x :: R).drop (F.length + 1) = R := by
    rw [List.drop_append, List.drop_of_length_le (by omega), List.nil_append, show F.length + 1 - F.length = 1 by omega]; rfl
  rw [h1, h2]
/-- The deletes. -/
theorem lead_dels {s t : DSch} {v a b : DVal} {p : List DStp} (h6 : t.kind = 6) (h : At s v p t a) : ∀ j, j ≤ a.ids.length →
    Leads s v (((a.ids.take j).filter (fun id => decide (id ∉ b.ids))).map fun id => ⟨3, p, id, 0, zeroV⟩) (chV (fun _ => aL a ((a.ids.take j).filter (fun id => decide (id ∈ b.ids)) ++ a.ids.drop j) (pOf a)) p v)
  | 0, _ => by
    have hl := h.ga.1.list h6
    rw [List.take_zero, List.drop_zero, List.filter_nil, List.filter_nil, List.map_nil, List.nil_append, aL_self hl.nodup hl.len, chV_same p h.get]
    exact Leads.nil s v
  | j + 1, hj => by
    have ih := lead_dels (b := b) h6 h j (by omega)
    obtain ⟨ga, hRt, _⟩ := h.ga
    have hl := ga.list h6
    have hlt : j < a.ids.length := by omega
    rw [List.take_succ_eq_append_getElem hlt, List.filter_append, List.filter_append]
    rw [List.drop_eq_getElem_cons hlt] at ih
    by_cases hm : a.ids[j] ∈ b.ids
    · rw [List.filter_cons_of_neg (by simpa using hm), List.filter_nil, List.append_nil, List.filter_cons_of_pos (by simpa using hm), List.filter_nil, List.append_assoc]
      exact ih
    · rw [List.filter_cons_of_pos (by simpa using hm), List.filter_nil, List.filter_cons_of_neg (by simpa using hm), List.filter_nil, List.append_nil, List.map_append, List.map_cons, List.map_nil]
      have hsub : ((a.ids.take j).filter (fun id => decide (id ∈ b.ids)) ++ a.ids[j] :: a.ids.drop (j + 1)).Sublist a.ids := by
        have h1 : a.ids = a.ids.take j ++ a.ids[j] :: a.ids.drop (j + 1) := by rw [← List.drop_eq_getElem_cons hlt, List.take_append_drop]
        conv => rhs; rw [h1]
        exact List.filter_sublist.append (List.Sublist.refl _)
      have hnd := hsub.nodup hl.nodup
      have hgv := ga.aL hRt h6 (g := pOf a) hnd (fun h0 => hl.zero (hsub.subset h0)) (Nat.le_trans hsub.length_le hl.most) (fun i hi => ga.pOf h6 (hsub.subset hi))
      have hA := h.put hgv
      have hin : a.ids[j] ∈ (aL a ((a.ids.take j).filter (fun id => decide (id ∈ b.ids)) ++ a.ids[j] :: a.ids.drop (j + 1)) (pOf a)).ids := List.mem_append_right _ (List.mem_cons_self ..)
      have hD := hA.del h6 hin
      have hix : ixN (aL a ((a.ids.take j).filter (fun id => decide (id ∈ b.ids)) ++ a.ids[j] :: a.ids.drop (j + 1)) (pOf a)).ids a.ids[j] = ((a.ids.take j).filter (fun id => decide (id ∈ b.ids))).length := by
        have := ix_of hnd (i := ((a.ids.take j).filter (fun id => decide (id ∈ b.ids))).length) (by simp; omega)
        rw [List.getElem_append_right (Nat.le_refl _)] at this
        simp only [Nat.sub_self, List.getElem_cons_zero] at this
        exact this
      rw [hix, tkV_aL, chV_twice p h.get, del_mid] at hD
      exact ih.app (Leads.one hD)
end Go.Proofs.YtjjhjhjphhpeiaaGreatDoor

namespace Go.Proofs.YtjjhjhjphhpeiaaGreatDoor
open Go.RowKit
set_option linter.unusedSimpArgs false
set_option linter.unusedVariables false
/-- The numbers that there are behind so many rounds. -/
structure Now (a b : DVal) (i : Nat) (now : List Nat) : Prop where
  nodup : now.Nodup
  head : now.take i = b.ids.take i
  mem : ∀ x, x ∈ now ↔ x ∈ b.ids ∧ (x ∈ a.ids ∨ x ∈ b.ids.take i)
theorem Now.len {a b : DVal} {i : Nat} {now : List Nat} (h : Now a b i now) (hi : i ≤ b.ids.length) : i ≤ now.length := by
  have := congrArg List.length h.head
  rw [List.length_take, List.length_take] at this
  omega
theorem nodup_sub_len : ∀ {l m : List Nat}, l.Nodup → (∀ x ∈ l, x ∈ m) → l.length ≤ m.length
  | [], m, _, _ => Nat.zero_le _
  | x :: l, m, hn, h => by
    obtain ⟨h1, h2⟩ := List.nodup_cons.1 hn
    have hx : x ∈ m := h x (by simp)
    have := nodup_sub_len (l := l) (m := m.erase x) h2 fun y hy => (List.mem_erase_of_ne (fun e : y = x => h1 (by rw [← e]; exact hy))).2 (h y (by simp [hy]))
    rw [List.length_erase_of_mem hx] at this
    have := List.length_pos_of_mem hx
    simp only [List.length_cons]; omega
theorem Now.most {a b : DVal} {i : Nat} {now : List Nat} (h : Now a b i now) : now.length ≤ b.ids.length := nodup_sub_len h.nodup fun x hx => ((h.mem x).1 hx).1
theorem Now.zero {a b : DVal} (hn : a.ids.Nodup) : Now a b 0 (a.ids.filter (fun id => decide (id ∈ b.ids))) :=
  ⟨hn.filter _, by simp, fun x => by simp [List.mem_filter, and_comm]⟩
theorem not_take {l : List Nat} (hn : l.Nodup) {i : Nat} (hi : i < l.length) : l[i] ∉ l.take i := fun hm => by
  obtain ⟨j, hj, e⟩ := List.getElem_of_mem hm
  rw [List.length_take] at hj
  rw [List.getElem_take] at e
  exact absurd e (List.pairwise_iff_getElem.1 hn j i (by omega) hi (by omega))
/-- A new one. -/
theorem Now.ins {a b : DVal} {i : Nat} {now : List Nat} (h : Now a b i now) (hn : b.ids.Nodup) (hi : i < b.ids.length) (hx : b.ids[i] ∉ a.ids) : b.ids[i] ∉ now ∧ Now a b (i + 1) (now.take i ++ [b.ids[i]] ++ now.drop i) := by
  have hni : b.ids[i] ∉ now := fun hm => by
    rcases ((h.mem _).1 hm).2 with h1 | h1
    · exact hx h1
    · exact not_take hn hi h1
  have hl := h.len (by omega)
  refine ⟨hni, ⟨(perm_ins now b.ids[i] i).nodup_iff.2 (List.nodup_cons.2 ⟨hni, h.nodup⟩), ?_, fun x => ?_⟩⟩
  · have h1 : (now.take i ++ [b.ids[i]]).length = i + 1 := by rw [List.length_append, List.length_take]; simp; omega
    rw [List.take_succ_eq_append_getElem hi, ← h.head, ← h1, List.take_left]
  · rw [(perm_ins now b.ids[i] i).mem_iff, List.mem_cons, h.mem, List.take_succ_eq_append_getElem hi, List.mem_append, List.mem_singleton]
    constructor
    · rintro (e | ⟨e1, e2⟩)
      · subst e; exact ⟨List.getElem_mem hi, .inr (.inr rfl)⟩
      · exact ⟨e1, e2.imp_right .inl⟩
    · rintro ⟨e1, e2 | e2 | e2⟩
      · exact .inr ⟨e1, .inl e2⟩
      · exact .inr ⟨e1, .inr e2⟩
      · exact .inl e2
theorem nd_inj {l : List Nat} (hn : l.Nodup) {i j : Nat} (hi : i < l.length) (hj : j < l.length) (e : l[i] = l[j]) : i = j := by
  have hp := List.pairwise_iff_getElem.1 hn
  rcases Nat.lt_trichotomy i j with h | h | h
  · exact absurd e (hp i j hi hj h)
  · exact h
  · exact absurd e.symm (hp j i hj hi h)
/-- One that is moved. -/
theorem Now.move {a b : DVal} {i : Nat} {now : List Nat} (h : Now a b i now) (hn : b.ids.Nodup) (hi : i < b.ids.length) (hx : b.ids[i] ∈ a.ids) :
    b.ids[i] ∈ now ∧ i ≤ ixN now b.ids[i] ∧ (now.take (ixN now b.ids[i]) ++ now.drop (ixN now b.ids[i] + 1)).take i = b.ids.take i ∧
    Now a b i ((now.take (ixN now b.ids[i]) ++ now.drop (ixN now b.ids[i] + 1)).take i ++ [b.ids[i]] ++ (now.take (ixN now b.ids[i]) ++ now.drop (ixN now b.ids[i] + 1)).drop i) ∧
    i ≤ (now.take (ixN now b.ids[i]) ++ now.drop (ixN now b.ids[i] + 1)).length ∧ (now.take (ixN now b.ids[i]) ++ now.drop (ixN now b.ids[i] + 1)).Nodup ∧ (∀ x ∈ now.take (ixN now b.ids[i]) ++ now.drop (ixN now b.ids[i] + 1), x ∈ now) := by
  have hm : b.ids[i] ∈ now := (h.mem _).2 ⟨List.getElem_mem hi, .inl hx⟩
  have hk := ix_lt hm
  have hl := h.len (by omega)
  have hge : now[ixN now b.ids[i]] = b.ids[i] := List.getElem_idxOf hk
  generalize hkk : ixN now b.ids[i] = k at *
  have hik : i ≤ k := by
    by_cases hc : i ≤ k
    · exact hc
    · exfalso
      have hmem : now[k] ∈ now.take i := by
        have : (now.take i)[k]'(by rw [List.length_take]; omega) = now[k] := List.getElem_take
        rw [← this]; exact List.getElem_mem _
      rw [hge, h.head] at hmem
      exact not_take hn hi hmem
  have he : now.take k ++ now.drop (k + 1) = now.eraseIdx k := List.eraseIdx_eq_take_drop_succ .. |>.symm
  have hp : (now[k] :: (now.take k ++ now.drop (k + 1))).Perm now := by
    have h1 : now = now.take k ++ now[k] :: now.drop (k + 1) := by rw [← List.drop_eq_getElem_cons hk, List.take_append_drop]
    refine List.perm_middle.symm.trans ?_
    rw [← h1]
  have htk : (now.take k ++ now.drop (k + 1)).take i = b.ids.take i := by
    rw [List.take_append_of_le_length (by rw [List.length_take]; omega), List.take_take, Nat.min_eq_left hik, h.head]
  have hll : (now.take k ++ now.drop (k + 1)).length = now.length - 1 := by
    rw [he, List.length_eraseIdx, if_pos hk]
  have hsub : (now.take k ++ now.drop (k + 1)).Sublist now := by rw [he]; exact List.eraseIdx_sublist _ _
  generalize now.take k ++ now.drop (k + 1) = m at *
  rw [hge] at hp
  have hq : (m.take i ++ [b.ids[i]] ++ m.drop i).Perm now := (perm_ins m b.ids[i] i).trans hp
  refine ⟨hm, hik, htk, ⟨hq.nodup_iff.2 h.nodup, ?_, fun x => by rw [hq.mem_iff]; exact h.mem x⟩, by omega, hsub.nodup h.nodup, hsub.subset⟩
  have h1 : (m.take i).length = i := by rw [List.length_take]; omega
  rw [← htk, List.append_assoc, List.take_append_of_le_length (by omega), List.take_take, Nat.min_self]
/-- One that stands. -/
theorem Now.stay {a b : DVal} {i : Nat} {now : List Nat} (h : Now a b i now) (hi : i < b.ids.length) (hx : b.ids[i] ∈ a.ids) (hl : i < now.length) (he : now[i] = b.ids[i]) : Now a b (i + 1) now := by
  refine ⟨h.nodup, by rw [List.take_succ_eq_append_getElem hi, List.take_succ_eq_append_getElem hl, h.head, he], fun x => ?_⟩
  rw [h.mem, List.take_succ_eq_append_getElem hi, List.mem_append, List.mem_singleton]
  constructor
  · rintro ⟨e1, e2 | e2⟩
    · exact ⟨e1, .inl e2⟩
    · exact ⟨e1, .inr (.inl e2)⟩
  · rintro ⟨e1, e2 | e2 | e2⟩
    · exact ⟨e1, .inl e2⟩
    · exact ⟨e1, .inr e2⟩
    · subst e2; exact ⟨e1, .inl hx⟩
theorem Now.zero_not {a b : DVal} {i : Nat} {now : List Nat} (h : Now a b i now) (h0 : 0 ∉ b.ids) : 0 ∉ now := fun hm => h0 ((h.mem 0).1 hm).1
/-- The parts of the other one, one more. -/
theorem mixG_succ {a b : DVal} {i : Nat} (hi : i < b.ids.length) {x : Nat} (hx : x ≠ b.ids[i] ∨ x ∉ a.ids) : mixG a b i x = mixG a b (i + 1) x := by
  have h : (x ∈ a.ids ∧ x ∉ b.ids.take i) ↔ (x ∈ a.ids ∧ x ∉ b.ids.take (i + 1)) := by
    rw [List.take_succ_eq_append_getElem hi, List.mem_append, List.mem_singleton]
    rcases hx with e | e
    · simp [e]
    · simp [e]
  by_cases hc : x ∈ a.ids ∧ x ∉ b.ids.take i
  · rw [mixG, mixG, if_pos hc, if_pos (h.1 hc)]
  · rw [mixG, mixG, if_neg hc, if_neg fun g => hc (h.2 g)]
theorem Now.gv {a b : DVal} {t : DSch} {i : Nat} {now : List Nat} (h : Now a b i now) (ga : GV a t) (gb : GV b t) (ht : RS t) (h6 : t.kind = 6) {m : List Nat} (hm : m.Nodup) (hs : ∀ x ∈ m, x ∈ now) : GV (aL a m (mixG a b i)) t := by
  have hl := gb.list h6
  have h1 := nodup_sub_len hm hs
  have h2 := h.most
  have h3 := hl.most
  refine ga.aL ht h6 hm (fun h0 => h.zero_not hl.zero (hs _ h0)) (by omega) fun x hx => ?_
  unfold mixG
  split
  · rename_i hc; exact ga.pOf h6 hc.1
  · exact gb.pOf h6 ((h.mem x).1 (hs x hx)).1
/-- The step to an element. -/
theorem elem_step {L : DVal} {t : DSch} (hL : GV L t) (ht : RS t) (h6 : t.kind = 6) {i : Nat} (hi : i < L.ids.length) : stepT t ([], L.ids[i]) = some (t.parts.getD 0 default) ∧ inP L ([], L.ids[i]) ∧ plN L ([], L.ids[i]) = i ∧ fineB ([], L.ids[i]) = true := by
  have hl := hL.list h6
  have hip : i < L.parts.length := by have := hl.len; omega
  have hs := place_step hL.rv hip
  have hst : stepV L i = ([], L.ids[i]) := by
    unfold stepV
    rw [if_neg (by have := hl.kind; omega), getD_at hi]
  rw [hst] at hs
  have h0 : L.ids[i] ≠ 0 := fun e => hl.zero (by rw [← e]; exact List.getElem_mem hi)
  have hp := ht.here.2 h6
  refine ⟨?_, ⟨by rw [hs]; omega, by rw [hs]; omega⟩, by unfold plN; rw [hs]; simp, ?_⟩
  · rw [stepT, if_pos rfl, if_pos ⟨h6, h0, by omega⟩]
  · unfold fineB
    have : ((L.ids[i] : Int) == 0) = false := by simpa using h0
    simp [this]
/-- The part of one that stands in its place. -/
theorem lead_part {k : Nat} (ih : LeadAt k) {s t : DSch} {v a b : DVal} {p : List DStp} {i : Nat} {now : List Nat} (h6 : t.kind = 6) (hd : a.depth ≤ k + 1) (h : At s v p t a) (hb : GV b t) (hN : Now a b i now) (hi : i < b.ids.length) (hx : b.ids[i] ∈ a.ids) (hl : i < now.length) (he : now[i] = b.ids[i]) :
    Leads s (chV (fun _ => aL a now (mixG a b i)) p v) (dOps k (p ++ [([], b.ids[i])]) (pOf a b.ids[i]) (b.parts.getD i default)) (chV (fun _ => aL a now (mixG a b (i + 1))) p v) := by
  obtain ⟨ga, hRt, _⟩ := h.ga
  have hbl := hb.list h6
  have hal := ga.list h6
  have gm := hN.gv ga hb hRt h6 hN.nodup fun x hx => hx
  have hA := h.put gm
  obtain ⟨e1, e2, e3, e4⟩ := elem_step (L := aL a now (mixG a b i)) gm hRt h6 (i := i) hl
  have hid : (aL a now (mixG a b i)).ids[i]'hl = b.ids[i] := he
  rw [hid] at e1 e2 e3 e4
  obtain ⟨hi', hS, hC⟩ := hA.sub e1 e2 e4
  have hnt : b.ids[i] ∉ b.ids.take i := not_take hbl.nodup hi
  have hpe : (aL a now (mixG a b i)).parts[plN (aL a now (mixG a b i)) ([], b.ids[i])] = pOf a b.ids[i] := by
    simp only [e3]
    show (now.map (mixG a b i))[i]'(by rw [List.length_map]; exact hl) = _
    rw [List.getElem_map, he]
    unfold mixG
    rw [if_pos ⟨hx, hnt⟩]
  rw [hpe] at hS
  have hda : (pOf a b.ids[i]).depth ≤ k := by
    have hk : ixN a.ids b.ids[i] < a.parts.length := by rw [hal.len]; exact ix_lt hx
    rw [pOf, getD_at hk]
    have := DVal.depth_part (List.getElem_mem hk)
    omega
  have hbi : i < b.parts.length := by have := hbl.len; omega
  have hgb : GV (b.parts.getD i default) (t.parts.getD 0 default) := by rw [getD_at hbi]; exact hbl.parts _ (List.getElem_mem hbi)
  have hL := ih s _ _ _ _ _ hda hS hgb
  rw [hC, chV_twice p h.get] at hL
  have e5 : (aL a now (mixG a b i)).withParts ((aL a now (mixG a b i)).parts.set (plN (aL a now (mixG a b i)) ([], b.ids[i])) (b.parts.getD i default)) = aL a now (mixG a b (i + 1)) := by
    rw [e3]
    show DVal.ofList a now ((now.map (mixG a b i)).set i (b.parts.getD i default)) = DVal.ofList a now (now.map (mixG a b (i + 1)))
    congr 1
    refine List.ext_getElem (by simp) fun j h1 h2 => ?_
    rw [List.getElem_set, List.getElem_map]
    have hj : j < now.length := by simpa using h2
    by_cases hij : i = j
    · subst hij
      rw [if_pos rfl, List.getElem_map, he]
      unfold mixG
      rw [if_neg (fun hc => hc.2 (by rw [List.take_succ_eq_append_getElem hi]; exact List.mem_append_right _ (List.mem_singleton.2 rfl))), pOf, ix_of hbl.nodup hi]
    · rw [if_neg hij, List.getElem_map]
      refine mixG_succ hi (.inl fun e => hij ?_)
      rw [← he] at e
      exact (nd_inj hN.nodup hj hl e).symm
  rw [e5] at hL
  exact hL
theorem shape_list {v : DVal} {t : DSch} (h : GV v t) (h6 : t.kind = 6) : v.n = 0 ∧ v.s = [] := by
  obtain ⟨b1, b2, b3, b4⟩ := here_parts h.here_
  have hk : v.kind = 6 := h.kind.trans h6
  unfold bad1 at b1
  unfold bad2 at b2
  exact ⟨by omega, List.eq_nil_of_length_eq_zero (by omega)⟩
theorem getD_ge {α : Type} {l : List α} {i : Nat} {d : α} (h : l.length ≤ i) : l.getD i d = d := by rw [List.getD_eq_getElem?_getD, List.getElem?_eq_none h]; rfl
/-- The one ahead. -/
theorem ahead_eq {b : DVal} {i : Nat} {m : List Nat} (hi : i ≤ b.ids.length) (hm : m.take i = b.ids.take i) : (if i = 0 then 0 else b.ids.getD (i - 1) 0) = (if i = 0 then 0 else m.getD (i - 1) 0) := by
  split
  · rfl
  · rename_i h
    have h1 := congrArg (fun l => l.getD (i - 1) 0) hm
    simp only [List.getD_eq_getElem?_getD] at h1
    rw [List.getElem?_take_of_lt (by omega), List.getElem?_take_of_lt (by omega)] at h1
    rw [List.getD_eq_getElem?_getD, List.getD_eq_getElem?_getD, h1]
theorem ahead_ne {b : DVal} {i : Nat} (hi : i < b.ids.length) (hn : b.ids.Nodup) (h0 : 0 ∉ b.ids) : b.ids[i] ≠ (if i = 0 then 0 else b.ids.getD (i - 1) 0) := by
  split
  · intro e; exact h0 (by rw [← e]; exact List.getElem_mem hi)
  · rename_i h
    rw [getD_at (show i - 1 < b.ids.length by omega)]
    intro e
    have := nd_inj hn hi (by omega) e
    omega
/-- One round. -/
theorem lead_round {k : Nat} (ih : LeadAt k) {s t : DSch} {v a b : DVal} {p : List DStp} {i : Nat} {now : List Nat} (h6 : t.kind = 6) (hd : a.depth ≤ k + 1) (h : At s v p t a) (hb : GV b t) (hN : Now a b i now) (hi : i < b.ids.length) :
    Now a b (i + 1) (lsRound (dOps k) p a b i now).2 ∧ Leads s (chV (fun _ => aL a now (mixG a b i)) p v) (lsRound (dOps k) p a b i now).1 (chV (fun _ => aL a (lsRound (dOps k) p a b i now).2 (mixG a b (i + 1))) p v) := by
  obtain ⟨ga, hRt, _⟩ := h.ga
  have hbl := hb.list h6
  have hal := ga.list h6
  have gm := hN.gv ga hb hRt h6 hN.nodup fun x hx => hx
  have hA := h.put gm
  have hne := ahead_ne hi hbl.nodup hbl.zero
  have hz : b.ids[i] ≠ 0 := fun e => hbl.zero (by rw [← e]; exact List.getElem_mem hi)
  unfold lsRound
  rw [getD_at hi]
  by_cases hx : b.ids[i] ∈ a.ids
  · rw [if_neg (by simpa using hx)]
    by_cases hc : now.getD i 0 = b.ids[i]
    · rw [if_neg (by simpa using hc)]
      have hl : i < now.length := by
        by_cases hh : i < now.length
        · exact hh
        · rw [getD_ge (by omega)] at hc
          exact absurd hc.symm hz
      have he : now[i] = b.ids[i] := by rwa [getD_at hl] at hc
      exact ⟨hN.stay hi hx hl he, lead_part ih h6 hd h hb hN hi hx hl he⟩
    · rw [if_pos hc]
      obtain ⟨hm, hik, htk, hN', hll, hnd, hsub⟩ := hN.move hbl.nodup hi hx
      have hM := hA.move h6 (id := b.ids[i]) hm hne
      have hk := ix_lt hm
      have hpx : (aL a now (mixG a b i)).parts.getD (ixN (aL a now (mixG a b i)).ids b.ids[i]) default = mixG a b i b.ids[i] := by
        show (now.map (mixG a b i)).getD (ixN now b.ids[i]) default = _
        rw [getD_at (by rw [List.length_map]; exact hk), List.getElem_map]
        congr 1
        exact List.getElem_idxOf hk
      rw [hpx, tkV_aL, plV_aL rfl, chV_twice p h.get] at hM
      have hixe : ixN (aL a now (mixG a b i)).ids b.ids[i] = ixN now b.ids[i] := rfl
      rw [hixe] at hM
      have hlen' : ((now.take (ixN now b.ids[i]) ++ now.drop (ixN now b.ids[i] + 1)).take i ++ [b.ids[i]] ++ (now.take (ixN now b.ids[i]) ++ now.drop (ixN now b.ids[i] + 1)).drop i).length = (now.take (ixN now b.ids[i]) ++ now.drop (ixN now b.ids[i] + 1)).length + 1 := (perm_ins _ _ _).length_eq
      have hti : ((now.take (ixN now b.ids[i]) ++ now.drop (ixN now b.ids[i] + 1)).take i).length = i := by rw [List.length_take]; omega
      generalize now.take (ixN now b.ids[i]) ++ now.drop (ixN now b.ids[i] + 1) = m at *
      have hpk : plK (aL a m (mixG a b i)) (if i = 0 then 0 else b.ids.getD (i - 1) 0) = i := by
        rw [ahead_eq (m := m) (by omega) htk]
        exact plK_at (L := aL a m (mixG a b i)) hnd (fun h0 => hN.zero_not hbl.zero (hsub _ h0)) hll
      rw [hpk] at hM
      have hl' : i < (m.take i ++ [b.ids[i]] ++ m.drop i).length := by omega
      have he' : (m.take i ++ [b.ids[i]] ++ m.drop i)[i] = b.ids[i] := by
        rw [List.getElem_append_left (by rw [List.length_append, hti]; simp), List.getElem_append_right (by omega)]
        simp [hti]
      refine ⟨hN'.stay hi hx hl' he', ?_⟩
      exact Leads.app (Leads.one hM) (lead_part ih h6 hd h hb hN' hi hx hl' he')
  · rw [if_pos hx]
    obtain ⟨hni, hN'⟩ := hN.ins hbl.nodup hi hx
    have h12 := hN'.most
    have hll := hN.len (by omega)
    rw [(perm_ins now b.ids[i] i).length_eq, List.length_cons] at h12
    have hbi : i < b.parts.length := by have := hbl.len; omega
    have hI := hA.ins h6 (id := b.ids[i]) (x := b.parts.getD i default) hni hz hne (by have := hbl.most; show now.length < 12; omega) (by rw [getD_at hbi]; exact hbl.parts _ (List.getElem_mem hbi))
    have hgx : mixG a b i b.ids[i] = b.parts.getD i default := by
      unfold mixG
      rw [if_neg (fun hc => hx hc.1), pOf, ix_of hbl.nodup hi]
    rw [plV_aL hgx, chV_twice p h.get] at hI
    have hpk : plK (aL a now (mixG a b i)) (if i = 0 then 0 else b.ids.getD (i - 1) 0) = i := by
      rw [ahead_eq (m := now) (by omega) hN.head]
      exact plK_at (L := aL a now (mixG a b i)) hN.nodup (hN.zero_not hbl.zero) hll
    rw [hpk] at hI
    refine ⟨hN', ?_⟩
    rw [← aL_congr (a := a) (g := mixG a b i) (g' := mixG a b (i + 1)) fun x hxm => ?_]
    · exact Leads.one hI
    · refine mixG_succ hi ?_
      by_cases e : x = b.ids[i]
      · exact .inr (by rw [e]; exact hx)
      · exact .inl e
/-- All rounds. -/
theorem lead_rounds {k : Nat} (ih : LeadAt k) {s t : DSch} {v a b : DVal} {p : List DStp} (h6 : t.kind = 6) (hd : a.depth ≤ k + 1) (h : At s v p t a) (hb : GV b t) : ∀ i, i ≤ b.ids.length →
    Now a b i (lsOps (dOps k) p a b i).2 ∧ Leads s v (lsOps (dOps k) p a b i).1 (chV (fun _ => aL a (lsOps (dOps k) p a b i).2 (mixG a b i)) p v)
  | 0, _ => by
    have hal := h.ga.1.list h6
    refine ⟨Now.zero hal.nodup, ?_⟩
    have := lead_dels (b := b) h6 h a.ids.length (Nat.le_refl _)
    rw [List.take_length, List.drop_length, List.append_nil] at this
    show Leads s v (lsDel p a b) (chV (fun _ => aL a (a.ids.filter (fun id => decide (id ∈ b.ids))) (mixG a b 0)) p v)
    rw [aL_congr (g := mixG a b 0) (g' := pOf a) fun x hx => ?_]
    · exact this
    · unfold mixG
      rw [if_pos ⟨(List.mem_filter.1 hx).1, by simp⟩]
  | i + 1, hi => by
    obtain ⟨h1, h2⟩ := lead_rounds ih h6 hd h hb i (by omega)
    obtain ⟨h3, h4⟩ := lead_round ih h6 hd h hb h1 (by omega)
    exact ⟨h3, h2.app h4⟩
theorem lead_list {k : Nat} (ih : LeadAt k) {s t : DSch} {v a b : DVal} {p : List DStp} (h6 : t.kind = 6) (hd : a.depth ≤ k + 1) (h : At s v p t a) (hb : GV b t) : Leads s v (lsOps (dOps k) p a b b.ids.length).1 (chV (fun _ => b) p v) := by
  obtain ⟨h1, h2⟩ := lead_rounds ih h6 hd h hb b.ids.length (Nat.le_refl _)
  have hbl := hb.list h6
  have hal := h.ga.1.list h6
  have hm := h1.most
  have hh := h1.head
  rw [List.take_length] at hh
  have hnow : (lsOps (dOps k) p a b b.ids.length).2 = b.ids := by
    have := List.take_of_length_le hm
    rw [hh] at this
    exact this.symm
  rw [hnow, mixG_end hbl.nodup hbl.len] at h2
  have hab : aL a b.ids (pOf b) = b := by
    have h5 : aL b b.ids (pOf b) = b := aL_self hbl.nodup hbl.len
    refine Eq.trans ?_ h5
    unfold aL DVal.ofList
    have ha1 := shape_list h.ga.1 h6
    have hb1 := shape_list hb h6
    rw [hal.kind, hbl.kind, hal.names, hbl.names, ha1.1, hb1.1, ha1.2, hb1.2]
  rw [hab] at h2
  exact h2
end Go.Proofs.YtjjhjhjphhpeiaaGreatDoor

namespace Go.Proofs.YtjjhjhjphhpeiaaGreatDoor
open Go.RowKit
set_option linter.unusedSimpArgs false
set_option linter.unusedVariables false
theorem dOps_same {k : Nat} {p : List DStp} {a : DVal} : dOps k p a a = [] := by
  cases k with
  | zero => rfl
  | succ k => rw [dOps, if_pos (eqB_true rfl)]
theorem leadAt : ∀ k, LeadAt k
  | 0 => fun s t v a b p hd h hb => by have := a.depth_pos; omega
  | k + 1 => fun s t v a b p hd h hb => by
    by_cases he : a = b
    · subst he
      rw [dOps_same, chV_same p h.get]
      exact Leads.nil s v
    · rw [dOps, if_neg (by rw [eqB_false he]; simp)]
      have hk := h.ga.1.kind
      by_cases h5 : a.kind = 5
      · rw [if_pos h5]; exact lead_rec (leadAt k) (by omega) hd h hb
      · rw [if_neg h5]
        by_cases h6 : a.kind = 6
        · rw [if_pos h6]; exact lead_list (leadAt k) (by omega) hd h hb
        · rw [if_neg h6]; exact Leads.one (h.set hb)
/-- From the top. -/
theorem leads_top {s : DSch} {a b : DVal} (hs : rightS 5 s = true) (ha : GV a s) (hb : GV b s) {k : Nat} (hk : a.depth ≤ k) : Leads s a (dOps k [] a b) b :=
  leadAt k s s a a b [] hk ⟨hs, ha, rfl, rfl, rfl⟩ hb
theorem dOps_nil {s : DSch} {a b : DVal} (hs : rightS 5 s = true) (ha : GV a s) (hb : GV b s) {k : Nat} (hk : a.depth ≤ k) : dOps k [] a b = [] ↔ a = b := by
  constructor
  · intro e
    have := leads_top hs ha hb hk
    rw [e] at this
    exact this.ends
  · intro e; subst e; exact dOps_same
end Go.Proofs.YtjjhjhjphhpeiaaGreatDoor

namespace Go.Proofs.YtjjhjhjphhpeiaaGreatDoor
open Go.RowKit
set_option linter.unusedSimpArgs false
set_option linter.unusedVariables false
/-- At most so many operations for values of a depth. -/
def dMax : Nat → Nat
  | 0 => 0
  | k + 1 => 24 + 12 * dMax k
theorem recd_most {a : DVal} {t : DSch} (ha : GV a t) : a.names.length ≤ 8 ∧ a.ids.length ≤ 12 := by
  obtain ⟨b1, b2, b3, b4⟩ := here_parts ha.here_
  unfold bad2 at b2
  exact ⟨by omega, by omega⟩
def LenAt (k : Nat) : Prop := ∀ (t : DSch) (p : List DStp) (a b : DVal), GV a t → GV b t → RS t → (dOps k p a b).length ≤ dMax k
theorem len_rec {k : Nat} (ih : LenAt k) {t : DSch} {p : List DStp} {a b : DVal} (h5 : t.kind = 5) (ha : GV a t) (hb : GV b t) (ht : RS t) : ∀ i, i ≤ a.names.length →
    ((List.range i).flatMap fun i => dOps k (p ++ [(a.names.getD i [], 0)]) (a.parts.getD i default) (b.parts.getD i default)).length ≤ i * dMax k
  | 0, _ => by simp
  | i + 1, hi => by
    have h1 := len_rec ih (p := p) h5 ha hb ht i (by omega)
    have r1 := ha.recd h5
    have r2 := hb.recd h5
    have hai : i < a.parts.length := by have := r1.len; omega
    have hbi : i < b.parts.length := by have h1 := r2.len; have h2 := r1.len; have h3 := r1.names; have h4 := r2.names; rw [h4, ← h3] at h1; omega
    have g1 := ih (t.parts.getD (atF t i) default) (p ++ [(a.names.getD i [], 0)]) (a.parts.getD i default) (b.parts.getD i default) (by rw [getD_at hai]; exact ha.part hai) (by rw [getD_at hbi]; exact hb.part hbi) (by rw [getD_at (ha.at_ hai)]; exact ht.part (List.getElem_mem _))
    rw [List.range_succ, List.flatMap_append, List.flatMap_cons, List.flatMap_nil, List.append_nil, List.length_append, Nat.succ_mul]
    omega
theorem len_round {k : Nat} (ih : LenAt k) {t : DSch} {p : List DStp} {a b : DVal} (h6 : t.kind = 6) (ha : GV a t) (hb : GV b t) (ht : RS t) {i : Nat} (hi : i < b.ids.length) (now : List Nat) : (lsRound (dOps k) p a b i now).1.length ≤ 1 + dMax k := by
  have hbl := hb.list h6
  have hbi : i < b.parts.length := by have := hbl.len; omega
  have hpt : 0 < t.parts.length := by have := ht.here.2 h6; omega
  unfold lsRound
  by_cases hx : b.ids.getD i 0 ∈ a.ids
  · have hg := ih (t.parts.getD 0 default) (p ++ [([], b.ids.getD i 0)]) (a.parts.getD (ixN a.ids (b.ids.getD i 0)) default) (b.parts.getD i default) (ha.pOf h6 hx) (by rw [getD_at hbi]; exact hbl.parts _ (List.getElem_mem hbi)) (by rw [getD_at hpt]; exact ht.part (List.getElem_mem hpt))
    rw [if_neg (by simpa using hx)]
    split
    · simp only [List.length_cons]; omega
    · simp only []; omega
  · rw [if_pos hx]
    simp only [List.length_cons, List.length_nil]; omega
theorem len_list {k : Nat} (ih : LenAt k) {t : DSch} {p : List DStp} {a b : DVal} (h6 : t.kind = 6) (ha : GV a t) (hb : GV b t) (ht : RS t) : ∀ i, i ≤ b.ids.length → (lsOps (dOps k) p a b i).1.length ≤ 12 + i * (1 + dMax k)
  | 0, _ => by
    have h1 := (recd_most ha).2
    have h2 : (a.ids.filter (fun id => decide (id ∉ b.ids))).length ≤ a.ids.length := List.length_filter_le _ _
    show (lsDel p a b).length ≤ _
    rw [lsDel, List.length_map]; omega
  | i + 1, hi => by
    have h1 := len_list ih (p := p) h6 ha hb ht i (by omega)
    have h2 := len_round ih (p := p) h6 ha hb ht (i := i) (by omega) (lsOps (dOps k) p a b i).2
    show ((lsOps (dOps k) p a b i).1 ++ (lsRound (dOps k) p a b i (lsOps (dOps k) p a b i).2).1).length ≤ _
    rw [List.length_append, Nat.succ_mul]
    omega
theorem lenAt : ∀ k, LenAt k
  | 0 => fun t p a b ha hb ht => Nat.le_refl _
  | k + 1 => fun t p a b ha hb ht => by
    rw [dOps, dMax]
    have hk := ha.kind
    obtain ⟨m1, m2⟩ := recd_most ha
    obtain ⟨m3, m4⟩ := recd_most hb
    split
    · simp
    · split
      · have h1 := len_rec (lenAt k) (p := p) (by omega) ha hb ht a.names.length (Nat.le_refl _)
        have h2 : a.names.length * dMax k ≤ 8 * dMax k := Nat.mul_le_mul_right _ m1
        omega
      · split
        · have h1 := len_list (lenAt k) (p := p) (by omega) ha hb ht b.ids.length (Nat.le_refl _)
          have h2 : b.ids.length * (1 + dMax k) ≤ 12 * (1 + dMax k) := Nat.mul_le_mul_right _ m4
          omega
        · simp; omega
end Go.Proofs.YtjjhjhjphhpeiaaGreatDoor

namespace Go.Proofs.YtjjhjhjphhpeiaaGreatDoor
open Go.RowKit
set_option linter.unusedSimpArgs false
set_option linter.unusedVariables false
def OkAt (k : Nat) : Prop := ∀ (t : DSch) (p : List DStp) (a b : DVal), GV a t → GV b t → RS t → okV a → okV b → b.weight ≤ 1000 → p.length + k ≤ 1000 → (∀ q ∈ p, q.1.length ≤ maxLen) → ∀ o ∈ dOps k p a b, OkO o
theorem u64_nil : U64 ((0 : Nat) : Int) := rfl
theorem okV_zero : okV zeroV := (okV_eq _).2 ⟨i64_0, i64_0, by simp [zeroV, DVal.s], by simp [zeroV, DVal.names], by simp [zeroV, DVal.names], by simp [zeroV, DVal.ids], by simp [zeroV, DVal.ids], by simp [zeroV, DVal.parts], by simp [zeroV, DVal.parts]⟩
theorem okAt : ∀ k, OkAt k
  | 0 => fun t p a b ha hb ht hoa hob hw hp hn o ho => by cases ho
  | k + 1 => fun t p a b ha hb ht hoa hob hw hp hn o ho => by
    have hk := ha.kind
    obtain ⟨a1, a2, a3, a4, a5, a6, a7, a8, a9⟩ := (okV_eq a).1 hoa
    obtain ⟨b1, b2, b3, b4, b5, b6, b7, b8, b9⟩ := (okV_eq b).1 hob
    have kI : ∀ n : Int, 0 ≤ n → n ≤ 4 → I64 n := fun n h1 h2 => WalkArith.wf_i64 (by omega)
    rw [dOps] at ho
    split at ho
    · cases ho
    split at ho
    · rename_i h5
      obtain ⟨i, hi, ho⟩ := List.mem_flatMap.1 ho
      rw [List.mem_range] at hi
      have r1 := ha.recd (by omega)
      have r2 := hb.recd (by omega)
      have hai : i < a.parts.length := by have := r1.len; omega
      have hbi : i < b.parts.length := by have h1 := r2.len; have h2 := r1.len; have h3 := r1.names; have h4 := r2.names; rw [h4, ← h3] at h1; omega
      have hbm := List.getElem_mem hbi
      have hwb := DVal.weight_part hbm
      rw [getD_at hai, getD_at hbi] at ho
      refine okAt k (t.parts.getD (atF t i) default) (p ++ [(a.names.getD i [], 0)]) _ _ (ha.part hai) (hb.part hbi) (by rw [getD_at (ha.at_ hai)]; exact ht.part (List.getElem_mem _)) (a9 _ (List.getElem_mem hai)) (b9 _ hbm) (by omega) (by simp; omega) (fun q hq => ?_) o ho
      rcases List.mem_append.1 hq with hq | hq
      · exact hn q hq
      · rw [List.mem_singleton] at hq; subst hq
        show (a.names.getD i []).length ≤ maxLen
        rw [getD_at hi]; exact a4 _ (List.getElem_mem hi)
    split at ho
    · rename_i h6
      have hbl := hb.list (by omega)
      have hpt : 0 < t.parts.length := by have := ht.here.2 (by omega); omega
      suffices h : ∀ i, i ≤ b.ids.length → ∀ o ∈ (lsOps (dOps k) p a b i).1, OkO o from h _ (Nat.le_refl _) o ho
      clear ho o
      intro i
      induction i with
      | zero =>
        intro _ o ho
        obtain ⟨x, hx, rfl⟩ := List.mem_map.1 ho
        exact ⟨by show p.length ≤ 1000; omega, hn, okV_zero, by show zeroV.weight ≤ 1000; rw [zero_wt]; omega, kI 3 (by omega) (by omega), a6 _ (List.mem_filter.1 hx).1, u64_nil⟩
      | succ i ih =>
        intro hi o ho
        rcases List.mem_append.1 ho with ho | ho
        · exact ih (by omega) o ho
        have hbi : i < b.parts.length := by have := hbl.len; omega
        have hbm := List.getElem_mem hbi
        have hwb := DVal.weight_part hbm
        have hU : ∀ j, U64 ((b.ids.getD j 0 : Nat) : Int) := fun j => by
          by_cases hj : j < b.ids.length
          · rw [getD_at hj]; exact b6 _ (List.getElem_mem hj)
          · rw [getD_ge (by omega)]; exact u64_nil
        have hA : U64 ((if i = 0 then 0 else b.ids.getD (i - 1) 0 : Nat) : Int) := by split; exact u64_nil; exact hU _
        unfold lsRound at ho
        have hsub : b.ids.getD i 0 ∈ a.ids → ∀ o ∈ dOps k (p ++ [([], b.ids.getD i 0)]) (a.parts.getD (ixN a.ids (b.ids.getD i 0)) default) (b.parts.getD i default), OkO o := fun hx o ho => by
          have hal := ha.list (by omega)
          have hai : ixN a.ids (b.ids.getD i 0) < a.parts.length := by rw [hal.len]; exact ix_lt hx
          rw [getD_at hai, getD_at hbi] at ho
          refine okAt k (t.parts.getD 0 default) (p ++ [([], b.ids.getD i 0)]) _ _ (hal.parts _ (List.getElem_mem hai)) (hbl.parts _ hbm) (by rw [getD_at hpt]; exact ht.part (List.getElem_mem hpt)) (a9 _ (List.getElem_mem hai)) (b9 _ hbm) (by omega) (by simp; omega) (fun q hq => ?_) o ho
          rcases List.mem_append.1 hq with hq | hq
          · exact hn q hq
          · rw [List.mem_singleton] at hq; subst hq
            simp
        by_cases hx : b.ids.getD i 0 ∈ a.ids
        · rw [if_neg (by simpa using hx)] at ho
          split at ho
          · rcases List.mem_cons.1 ho with e | e
            · subst e
              exact ⟨by show p.length ≤ 1000; omega, hn, okV_zero, by show zeroV.weight ≤ 1000; rw [zero_wt]; omega, kI 4 (by omega) (by omega), hU i, hA⟩
            · exact hsub hx o e
          · exact hsub hx o ho
        · rw [if_pos hx, List.mem_singleton] at ho
          subst ho
          exact ⟨by show p.length ≤ 1000; omega, hn, by show okV (b.parts.getD i default); rw [getD_at hbi]; exact b9 _ hbm, by show (b.parts.getD i default).weight ≤ 1000; rw [getD_at hbi]; omega, kI 2 (by omega) (by omega), hU i, hA⟩
    · rw [List.mem_singleton] at ho
      subst ho
      exact ⟨by show p.length ≤ 1000; omega, hn, hob, hw, kI 1 (by omega) (by omega), u64_nil, u64_nil⟩
end Go.Proofs.YtjjhjhjphhpeiaaGreatDoor

namespace Go.Proofs.YtjjhjhjphhpeiaaGreatDoor
open Go.RowKit
set_option linter.unusedSimpArgs false
set_option linter.unusedVariables false
set_option maxRecDepth 200000 in
set_option maxHeartbeats 4000000 in
theorem mval_set {S : St} {k : Nat} {l : List DOp} (own : Own) (p : List DStp) (a b : DVal) (hk : k < S.next) (h : MAt k l S) (hl : l.length ≤ 1000000) (hp : p.length ≤ 1000000) (hoa : okV a) (hob : okV b) (hwa : a.weight ≤ 1000000) (hw : b.weight ≤ 1000000) (h5 : a.kind ≠ 5) (h6 : a.kind ≠ 6) (hne : eqB a b = false) :
    DCalls Tryz.prog 32 [.loc k 0, .sl own (p.map encP), encV a, encV b] S fun d T => d = undefD ∧ MAt k (l ++ [⟨1, p, 0, 0, b⟩]) T ∧ MFr k S T := by
  refine dcalls_inline mixed Tryz.func32 rfl (fun _ _ => by kernel_rfl) (rs := []) rfl (by kernel_rfl) (fun hS => ?_)
  have b5 : (a.kind == 5) = false := by simp [h5]
  have b6 : (a.kind == 6) = false := by simp [h6]
  (simp (disch := first | decide | omega | (simp only [nx]; first | done | omega)) only [go_sem, Nat.reduceMul]; (repeat (with_reducible refine And.intro (by first | omega | assumption | rfl) ?_)))
  refine DCalls.of_pure (valSame_d a.depth a b (Nat.le_refl _) hwa hw) ?_
  rw [hne]
  (simp (disch := first | decide | omega | (simp only [nx]; first | done | omega)) only [go_sem, Nat.reduceMul, b5, b6]; (repeat (with_reducible refine And.intro (by first | omega | assumption | rfl) ?_)))
  refine DCalls.of_pure (copyV_d b.depth b (Nat.le_refl _) hw) ?_
  (simp (disch := first | decide | omega | (simp only [nx]; first | done | omega)) only [go_sem, Nat.reduceMul, b5, b6]; (repeat (with_reducible refine And.intro (by first | omega | assumption | rfl) ?_)))
  have hw2 := (hS.add (.box 29 (encV a).cells))
  have hkp : ∀ j o, S.ob j = some o → ((S.add (.box 29 (encV a).cells)).add (.box 29 (encV b).cells)).ob j = some o := fun j o e => keep_add hw2 _ j o (keep_add hS _ j o e)
  refine (add_w own ⟨1, p, 0, 0, b⟩ (by show k < S.next + 1 + 1; omega) (h.keep hkp) hl hp).mono ?_
  rintro _ T ⟨rfl, h1, h2⟩
  (simp (disch := first | decide | omega | (simp only [nx]; first | done | omega)) only [go_sem, Nat.reduceMul]; (repeat (with_reducible refine And.intro (by first | omega | assumption | rfl) ?_)))
  exact (MFr.of_keep (by show S.next ≤ S.next + 1 + 1; omega) hkp).trans h2
theorem closed_ops (l : List DOp) : (D.tup [.sl .no (l.map encO), .v .nilIface]).closed := by
  simp only [D.closed, D.all, allL, Own.all, and_true, true_and]
  refine allL_iff.2 fun d hd => ?_
  obtain ⟨o, _, rfl⟩ := List.mem_map.1 hd
  exact closed_encO o
set_option maxRecDepth 200000 in
set_option maxHeartbeats 4000000 in
theorem between_of (s : DSch) (a b : DVal) (l : List DOp) (hos : okS s) (hoa : okV a) (hob : okV b) (hr : rightS 5 s = true) (hfa : fitsTop a s = true) (hfb : fitsTop b s = true)
    (hval : ∀ S k, k < S.next → MAt k [] S → DCalls Tryz.prog 32 [.loc k 0, .sl .full [], encV a, encV b] S fun d T => d = undefD ∧ MAt k l T ∧ MFr k S T) :
    DPure Tryz.prog 9 [encS s, encV a, encV b] (.tup [.sl .no (l.map encO), .v .nilIface]) := by
  refine dpure_of_dwp mixed Tryz.func9 rfl (fun _ _ => by kernel_rfl) (rs := [.tmp 6, .tmp 7]) rfl (by kernel_rfl) (closed_ops l) (fun S hS => ?_)
  (simp (disch := first | decide | omega | (simp only [nx]; first | done | omega)) only [go_sem, Nat.reduceMul]; (repeat (with_reducible refine And.intro (by first | omega | assumption | rfl) ?_)))
  refine DCalls.of_pure (schRight_d s hos) ?_
  rw [hr]
  (simp (disch := first | decide | omega | (simp only [nx]; first | done | omega)) only [go_sem, Nat.reduceMul]; (repeat (with_reducible refine And.intro (by first | omega | assumption | rfl) ?_)))
  refine DCalls.of_pure (fitsTop_d a s hoa hos) ?_
  rw [hfa]
  (simp (disch := first | decide | omega | (simp only [nx]; first | done | omega)) only [go_sem, Nat.reduceMul]; (repeat (with_reducible refine And.intro (by first | omega | assumption | rfl) ?_)))
  refine DCalls.of_pure (fitsTop_d b s hob hos) ?_
  rw [hfb]
  (simp (disch := first | decide | omega | (simp only [nx]; first | done | omega)) only [go_sem, Nat.reduceMul]; (repeat (with_reducible refine And.intro (by first | omega | assumption | rfl) ?_)))
  refine (hval _ _ (by show _ < S.next + 1 + 1 + 1 + 1; omega) ⟨.full, by (first | (simp (disch := first | decide | omega | (simp only [nx]; first | done | omega)) only [go_sem, Nat.reduceMul]; first | done | rfl) | rfl), .inl ⟨rfl, rfl⟩⟩).mono ?_
  rintro _ T ⟨rfl, ⟨own, t1, t2⟩, hf⟩
  have hsub : S.Sub T := ⟨Nat.le_trans (by show S.next ≤ S.next + 1 + 1 + 1 + 1; omega) hf.next, fun j o e => hf.ob j o (.inl (by have := hS.lt e; omega)) (keep_add (((hS.add _).add _).add _) _ j o (keep_add ((hS.add _).add _) _ j o (keep_add (hS.add _) _ j o (keep_add hS _ j o e))))⟩
  (simp (disch := first | decide | omega | (simp only [nx]; first | done | omega)) only [go_sem, Nat.reduceMul, t1]; (repeat (with_reducible refine And.intro (by first | omega | assumption | rfl) ?_)))
  refine ⟨?_, hsub⟩
  simp only [D.frz, frzL, frz_mapO]
/-! The document's example. -/
def dcS : DSch := .mk 2 [] []
def dcA : DVal := .mk 2 2 [] [] [] []
def dcB : DVal := .mk 2 3 [] [] [] []
theorem ex_ok (n : Int) (h : I64 n) : okV (.mk 2 n [] [] [] []) := by
  rw [okV_eq]
  refine ⟨?_, h, by simp [DVal.s], by simp [DVal.names], by simp [DVal.names], by simp [DVal.ids], by simp [DVal.ids], by simp [DVal.parts], by simp [DVal.parts]⟩
  exact WalkArith.wf_i64 (by simp [DVal.kind])
set_option maxRecDepth 200000 in
set_option maxHeartbeats 4000000 in
theorem awake13_d : DPure Tryz.prog 8 [] (.v (.bool true)) := by
  have h2 := ex_ok 2 (WalkArith.wf_i64 (by omega))
  have h3 := ex_ok 3 (WalkArith.wf_i64 (by omega))
  have hs : okS dcS := by
    rw [okS_eq]
    exact ⟨WalkArith.wf_i64 (by simp [dcS, DSch.kind]), by simp [dcS, DSch.words], by simp [dcS, DSch.words], by simp [dcS, DSch.parts], by simp [dcS, DSch.parts]⟩
  have hb := between_of dcS dcA dcB [⟨1, [], 0, 0, dcB⟩] hs h2 h3 (by kernel_rfl) (by kernel_rfl) (by kernel_rfl) fun S k hk hm =>
    mval_set .full [] dcA dcB hk hm (by simp) (by simp) h2 h3 (by simp [dcA, DVal.weight_eq, DVal.names, DVal.ids, DVal.parts, DVal.weights]) (by simp [dcB, DVal.weight_eq, DVal.names, DVal.ids, DVal.parts, DVal.weights]) (by simp [dcA, DVal.kind]) (by simp [dcA, DVal.kind]) (Bool.eq_false_iff.2 fun h => by have := eqB_iff.1 h; simp [dcA, dcB] at this)
  refine dpure_of_dwp mixed Tryz.func8 rfl (fun _ _ => by kernel_rfl) (rs := [.tmp 0]) rfl (by kernel_rfl) trivial (fun S hS => ?_)
  (simp (disch := first | decide | omega | (simp only [nx]; first | done | omega)) only [go_sem, Nat.reduceMul]; (repeat (with_reducible refine And.intro (by first | omega | assumption | rfl) ?_)))
  refine DCalls.of_pure (DPure.weak hb (by simp only [frzL, D.frz, encV_eq, encS_eq]; rfl)) ?_
  have b11 : (((1 : Nat) : Int) == 1) = true := rfl
  (simp (disch := first | decide | omega | (simp only [nx]; first | done | omega)) only [go_sem, Nat.reduceMul, b11, cells_encO, opCs, gdV1, dcB, DVal.n]; (repeat (with_reducible refine And.intro (by first | omega | assumption | rfl) ?_)))
  refine ⟨?_, (by (repeat' first | assumption | exact St.Sub.refl _ | exact RowOk.sub (by assumption) (by assumption) | refine St.Sub.trans ?_ (RowOk.sub (by assumption) (by assumption)) | refine St.Sub.add ?_ ?_ _ | refine St.Sub.set ?_ ?_ ?_ _ | refine St.Sub.keep ?_ ?_ | refine St.WF.leave ?_ _ | refine St.WF.add ?_ _ | refine St.WF.set ?_ ?_ _ | refine St.WF.grow ?_ _ _ _ | refine St.WF.keep ?_ ?_ | (first | omega | (simp only [RowOk.lo, nx]; first | done | omega))))⟩
  rfl
end Go.Proofs.YtjjhjhjphhpeiaaGreatDoor

namespace Go.Proofs.YtjjhjhjphhpeiaaGreatDoor
open Go.RowKit
set_option linter.unusedSimpArgs false
set_option linter.unusedVariables false
theorem Now.round {a b : DVal} {i : Nat} {now : List Nat} {f : List DStp → DVal → DVal → List DOp} {p : List DStp} (h : Now a b i now) (hn : b.ids.Nodup) (h0 : 0 ∉ b.ids) (hi : i < b.ids.length) : Now a b (i + 1) (lsRound f p a b i now).2 := by
  have hz : b.ids[i] ≠ 0 := fun e => h0 (by rw [← e]; exact List.getElem_mem hi)
  unfold lsRound
  rw [getD_at hi]
  by_cases hx : b.ids[i] ∈ a.ids
  · rw [if_neg (by simpa using hx)]
    by_cases hc : now.getD i 0 = b.ids[i]
    · rw [if_neg (by simpa using hc)]
      have hl : i < now.length := by
        by_cases hh : i < now.length
        · exact hh
        · rw [getD_ge (by omega)] at hc
          exact absurd hc.symm hz
      exact h.stay hi hx hl (by rwa [getD_at hl] at hc)
    · rw [if_pos hc]
      obtain ⟨hm, hik, htk, hN', hll, hnd, hsub⟩ := h.move hn hi hx
      generalize now.take (ixN now b.ids[i]) ++ now.drop (ixN now b.ids[i] + 1) = m at *
      have hti : (m.take i).length = i := by rw [List.length_take]; omega
      have hlen : (m.take i ++ [b.ids[i]] ++ m.drop i).length = m.length + 1 := (perm_ins _ _ _).length_eq
      refine hN'.stay hi hx (by omega) ?_
      rw [List.getElem_append_left (by rw [List.length_append, hti]; simp), List.getElem_append_right (by omega)]
      simp [hti]
  · rw [if_pos hx]
    exact (h.ins hn hi hx).2
/-- Two values of one type, in a place. -/
structure VArg (k : Nat) (p : List DStp) (a b : DVal) (t : DSch) : Prop where
  ga : GV a t
  gb : GV b t
  rs : RS t
  oka : okV a
  okb : okV b
  wa : a.weight ≤ 1000000
  wb : b.weight ≤ 1000000
  dep : a.depth ≤ k
  len : p.length + k ≤ 1000
theorem VArg.field {k : Nat} {p : List DStp} {a b : DVal} {t : DSch} (h : VArg (k + 1) p a b t) (h5 : t.kind = 5) {i : Nat} (hi : i < a.names.length) : ∃ (ha : i < a.parts.length) (hb : i < b.parts.length) (u : DSch), VArg k (p ++ [(a.names.getD i [], 0)]) a.parts[i] b.parts[i] u := by
  have r1 := h.ga.recd h5
  have r2 := h.gb.recd h5
  have hai : i < a.parts.length := by have := r1.len; omega
  have hbi : i < b.parts.length := by have h1 := r2.len; have h2 := r1.len; have h3 := r1.names; have h4 := r2.names; rw [h4, ← h3] at h1; omega
  obtain ⟨o1, o2, o3, o4, o5, o6, o7, o8, o9⟩ := (okV_eq a).1 h.oka
  obtain ⟨p1, p2, p3, p4, p5, p6, p7, p8, p9⟩ := (okV_eq b).1 h.okb
  have w1 := DVal.weight_part (List.getElem_mem hai)
  have w2 := DVal.weight_part (List.getElem_mem hbi)
  have d1 := DVal.depth_part (List.getElem_mem hai)
  have := h.wa; have := h.wb; have := h.dep; have := h.len
  exact ⟨hai, hbi, _, h.ga.part hai, h.gb.part hbi, by rw [getD_at (h.ga.at_ hai)]; exact h.rs.part (List.getElem_mem _), o9 _ (List.getElem_mem hai), p9 _ (List.getElem_mem hbi), by omega, by omega, by omega, by simp; omega⟩
theorem VArg.elem {k : Nat} {p : List DStp} {a b : DVal} {t : DSch} (h : VArg (k + 1) p a b t) (h6 : t.kind = 6) {i : Nat} (hi : i < b.ids.length) (hx : b.ids[i] ∈ a.ids) : ∃ (ha : ixN a.ids b.ids[i] < a.parts.length) (hb : i < b.parts.length), VArg k (p ++ [([], b.ids[i])]) a.parts[ixN a.ids b.ids[i]] b.parts[i] (t.parts.getD 0 default) := by
  have hal := h.ga.list h6
  have hbl := h.gb.list h6
  have hai : ixN a.ids b.ids[i] < a.parts.length := by rw [hal.len]; exact ix_lt hx
  have hbi : i < b.parts.length := by have := hbl.len; omega
  obtain ⟨o1, o2, o3, o4, o5, o6, o7, o8, o9⟩ := (okV_eq a).1 h.oka
  obtain ⟨p1, p2, p3, p4, p5, p6, p7, p8, p9⟩ := (okV_eq b).1 h.okb
  have w1 := DVal.weight_part (List.getElem_mem hai)
  have w2 := DVal.weight_part (List.getElem_mem hbi)
  have d1 := DVal.depth_part (List.getElem_mem hai)
  have hpt : 0 < t.parts.length := by have := h.rs.here.2 h6; omega
  have := h.wa; have := h.wb; have := h.dep; have := h.len
  exact ⟨hai, hbi, hal.parts _ (List.getElem_mem hai), hbl.parts _ (List.getElem_mem hbi), by rw [getD_at hpt]; exact h.rs.part (List.getElem_mem hpt), o9 _ (List.getElem_mem hai), p9 _ (List.getElem_mem hbi), by omega, by omega, by omega, by simp; omega⟩
/-- What a call of value does. -/
def ValOk (k : Nat) : Prop := ∀ (S : St) (m : Nat) (own : Own) (l : List DOp) (p : List DStp) (a b : DVal) (t : DSch), m < S.next → MAt m l S → l.length + dMax k ≤ 1000000 → VArg k p a b t →
  DCalls Tryz.prog 32 [.loc m 0, .sl own (p.map encP), encV a, encV b] S fun d T => d = undefD ∧ MAt m (l ++ dOps k p a b) T ∧ MFr m S T
end Go.Proofs.YtjjhjhjphhpeiaaGreatDoor

namespace Go.Proofs.YtjjhjhjphhpeiaaGreatDoor
open Go.RowKit
set_option linter.unusedSimpArgs false
set_option linter.unusedVariables false
/-- What a contract tells, told of arguments with more room. -/
theorem DCalls.weak {P : Program} {g : FuncId} {args args' : List D} {S : St} {K : D → St → Prop} (k : DCalls P g args' S K) (h : frzL args = args') : DCalls P g args S K := fun base η w vs hM hr => k base η w vs hM (h ▸ RepL.frz hr)
theorem flat_u64 (l : List Nat) : flat (l.map u64D) = l.map u64D := flat_vs uv l
theorem NowAt.win {lo : Nat} {l : List Nat} {d : D} {T : St} (h : NowAt lo l d T) (hl : 0 < l.length) : ∃ j c zs, d = .win j 0 l.length c ∧ T.ob j = some (.box 42 (l.map u64D ++ zs)) := by
  rcases h with ⟨rfl, rfl⟩ | ⟨j, c, zs, rfl, h2, h3, h4, h5, h6⟩
  · cases hl
  · rw [ownOb_box h6, flat_u64] at h2
    exact ⟨j, c, zs, rfl, h2⟩
def dels (p : List DStp) (a b : DVal) (i : Nat) : List DOp := ((a.ids.take i).filter (fun id => decide (id ∉ b.ids))).map fun id => ⟨3, p, id, 0, zeroV⟩
def stay (a b : DVal) (i : Nat) : List Nat := (a.ids.take i).filter (fun id => decide (id ∈ b.ids))
theorem dels_len (p : List DStp) (a b : DVal) (i : Nat) : (dels p a b i).length ≤ i := by
  rw [dels, List.length_map]
  exact Nat.le_trans (List.length_filter_le _ _) (by rw [List.length_take]; omega)
theorem stay_len (a b : DVal) (i : Nat) : (stay a b i).length ≤ i := Nat.le_trans (List.length_filter_le _ _) (by rw [List.length_take]; omega)
theorem dels_no {p : List DStp} {a b : DVal} {i : Nat} (hi : i < a.ids.length) (h : a.ids[i] ∉ b.ids) : dels p a b (i + 1) = dels p a b i ++ [⟨3, p, a.ids[i], 0, zeroV⟩] ∧ stay a b (i + 1) = stay a b i := by
  unfold dels stay
  rw [List.take_succ_eq_append_getElem hi, List.filter_append, List.filter_append, List.filter_cons_of_pos (by simpa using h), List.filter_cons_of_neg (by simpa using h)]
  simp
theorem dels_yes {p : List DStp} {a b : DVal} {i : Nat} (hi : i < a.ids.length) (h : a.ids[i] ∈ b.ids) : dels p a b (i + 1) = dels p a b i ∧ stay a b (i + 1) = stay a b i ++ [a.ids[i]] := by
  unfold dels stay
  rw [List.take_succ_eq_append_getElem hi, List.filter_append, List.filter_append, List.filter_cons_of_neg (by simpa using h), List.filter_cons_of_pos (by simpa using h)]
  simp
set_option maxRecDepth 200000 in
set_option maxHeartbeats 8000000 in
theorem list_w {k : Nat} (ih : ValOk k) {S : St} {m : Nat} (own : Own) {l : List DOp} {p : List DStp} {a b : DVal} {t : DSch} (h6 : t.kind = 6) (hm : m < S.next) (hM : MAt m l S) (hl : l.length + dMax (k + 1) ≤ 1000000) (hA : VArg (k + 1) p a b t) :
    DCalls Tryz.prog 65 [.loc m 0, .sl own (p.map encP), encV a, encV b] S fun d T => d = undefD ∧ MAt m (l ++ (lsOps (dOps k) p a b b.ids.length).1) T ∧ MFr m S T := by
  have hal := hA.ga.list h6
  have hbl := hA.gb.list h6
  have hpl := hA.len
  have h12 := hal.most
  have hb12 := hbl.most
  have hdm : dMax (k + 1) = 24 + 12 * dMax k := rfl
  refine dcalls_inline mixed Tryz.func65 rfl (fun _ _ => by kernel_rfl) (rs := []) rfl (by kernel_rfl) (fun hS => ?_)
  (simp (disch := first | decide | omega | (simp only [nx]; first | done | omega)) only [go_sem, Nat.reduceMul]; (repeat (with_reducible refine And.intro (by first | omega | assumption | rfl) ?_)))
  obtain ⟨S1, hS1e⟩ : ∃ S1, (S.add (.box 29 (encV a).cells)).add (.box 29 (encV b).cells) = S1 := ⟨_, rfl⟩
  have hS1 : S1.WF := by rw [← hS1e]; exact (hS.add _).add _
  have hn1 : S1.next = S.next + 2 := by rw [← hS1e]; rfl
  have sa : S1.ob S.next = some (.box 29 (encV a).cells) := by rw [← hS1e]; (first | (simp (disch := first | decide | omega | (simp only [nx]; first | done | omega)) only [go_sem, Nat.reduceMul]; first | done | rfl) | rfl)
  have sb : S1.ob (S.next + 1) = some (.box 29 (encV b).cells) := by rw [← hS1e]; (first | (simp (disch := first | decide | omega | (simp only [nx]; first | done | omega)) only [go_sem, Nat.reduceMul]; first | done | rfl) | rfl)
  have hM1 : MAt m l S1 := by rw [← hS1e]; exact hM.keep fun j o e => keep_add (hS.add _) _ j o (keep_add hS _ j o e)
  have hF1 : MFr m S S1 := by rw [← hS1e]; exact MFr.of_keep (by show S.next ≤ S.next + 1 + 1; omega) fun j o e => keep_add (hS.add _) _ j o (keep_add hS _ j o e)
  rw [hS1e]
  clear hS1e
  refine dloop_up (fun t => List.contains [8, 10, 20, 21, 22, 23, 24, 25, 26, 27, 28, 29, 30, 31, 32, 33, 34, 35, 36, 37] t) (by kernel_rfl) (by exact hS1) a.ids.length (fun i g T => i ≤ a.ids.length ∧ g 20 = .v (.int .i64 ((i : Nat) : Int)) ∧ NowAt S1.next (stay a b i) (g 8) T ∧ MAt m (l ++ dels p a b i) T ∧ MFr m S1 T)
    ⟨by omega, by (first | (simp (disch := first | decide | omega | (simp only [nx]; first | done | omega)) only [go_sem, Nat.reduceMul]; first | done | rfl) | rfl), .inl ⟨rfl, by (first | (simp (disch := first | decide | omega | (simp only [nx]; first | done | omega)) only [go_sem, Nat.reduceMul]; first | done | rfl) | rfl)⟩, by simpa [dels] using hM1, MFr.refl _ _⟩ ?_
  rintro i g T hT hg ⟨le, q20, hN, hMT, hFT⟩
  (have q0 := hg 0 rfl; have q1 := hg 1 rfl; have q6 := hg 6 rfl; have q7 := hg 7 rfl; have q18 := hg 18 rfl; have q19 := hg 19 rfl; simp (disch := first | decide | omega | (simp only [nx]; first | done | omega)) only [go_sem, Nat.reduceMul] at q0 q1 q6 q7 q18 q19; clear hg)
  have ta := hFT.box S.next _ _ (by omega) sa
  have tb := hFT.box (S.next + 1) _ _ (by omega) sb
  have hlo := hFT.next
  have hlt : m < T.next := by omega
  have hdl := dels_len p a b i
  by_cases hi : i < a.ids.length
  · have b1 : decide ((i : Int) < (a.ids.length : Int)) = true := by simp; omega
    have w1 : IntKind.i64.wrap ((i : Int) + 1) = ((i + 1 : Nat) : Int) := IntWalk.i64_in _ ⟨by omega, by omega⟩
    (simp (disch := first | decide | omega | (simp only [nx]; first | done | omega)) only [go_sem, Nat.reduceMul, q20, q0, q1, q6, q7, q18, q19, ta, tb, b1, hi, u64D]; (repeat (with_reducible refine And.intro (by first | omega | assumption | rfl) ?_)))
    refine DCalls.of_pure (uHas_d .no b.ids a.ids[i] (by omega)) ?_
    by_cases hx : a.ids[i] ∈ b.ids
    · rw [decide_eq_true hx]
      obtain ⟨e1, e2⟩ := dels_yes (p := p) hi hx
      (simp (disch := first | decide | omega | (simp only [nx]; first | done | omega)) only [go_sem, Nat.reduceMul, q20, q0, q1, q6, q7, q18, q19, ta, tb, b1, hi, u64D]; (repeat (with_reducible refine And.intro (by first | omega | assumption | rfl) ?_)))
      refine now_app hN hT (by omega) (by have := stay_len a b i; omega) fun d' T' g1 g2 g3 => ?_
      (simp (disch := first | decide | omega | (simp only [nx]; first | done | omega)) only [go_sem, Nat.reduceMul, q20, w1]; (repeat (with_reducible refine And.intro (by first | omega | assumption | rfl) ?_)))
      refine ⟨by omega, _, fun _ _ h => h, by omega, by (first | (simp (disch := first | decide | omega | (simp only [nx]; first | done | omega)) only [go_sem, Nat.reduceMul]; first | done | rfl) | rfl), ?_, ?_, ?_⟩
      · have : NowAt S1.next (stay a b (i + 1)) d' T' := by rw [e2]; exact g1
        exact this
      · rw [e1]; exact hMT.gw (by omega) g2
      · exact hFT.gw hS1 g2
    · rw [decide_eq_false hx]
      obtain ⟨e1, e2⟩ := dels_no (p := p) hi hx
      (simp (disch := first | decide | omega | (simp only [nx]; first | done | omega)) only [go_sem, Nat.reduceMul, q20, q0, q1, q6, q7, q18, q19, ta, tb, b1, hi, u64D]; (repeat (with_reducible refine And.intro (by first | omega | assumption | rfl) ?_)))
      refine DCalls.weak ((add_w .no ⟨3, p, a.ids[i], 0, zeroV⟩ hlt hMT (by simp; omega) (by show p.length ≤ 1000000; omega)).mono ?_) (by simp only [frzL, D.frz, frz_mapPk]; rfl)
      rintro _ T' ⟨rfl, g1, g2⟩
      (simp (disch := first | decide | omega | (simp only [nx]; first | done | omega)) only [go_sem, Nat.reduceMul, q20, w1]; (repeat (with_reducible refine And.intro (by first | omega | assumption | rfl) ?_)))
      refine ⟨by omega, _, fun _ _ h => h, by omega, by (first | (simp (disch := first | decide | omega | (simp only [nx]; first | done | omega)) only [go_sem, Nat.reduceMul]; first | done | rfl) | rfl), ?_, ?_, ?_⟩
      · have : NowAt S1.next (stay a b (i + 1)) (g 8) T' := by rw [e2]; exact hN.fr (by omega) g2
        exact this
      · rw [e1, ← List.append_assoc]; exact g1
      · exact hFT.trans g2
  · have b1 : decide ((i : Int) < (a.ids.length : Int)) = false := by simp; omega
    have hie : i = a.ids.length := by omega
    subst hie
    (simp (disch := first | decide | omega | (simp only [nx]; first | done | omega)) only [go_sem, Nat.reduceMul, q20, q0, q1, q6, q7, q18, q19, ta, tb, b1]; (repeat (with_reducible refine And.intro (by first | omega | assumption | rfl) ?_)))
    have hM0 : MAt m (l ++ (lsOps (dOps k) p a b 0).1) T := by
      have := hMT
      rwa [dels, List.take_length] at this
    have hN0 : NowAt S1.next (lsOps (dOps k) p a b 0).2 (g 8) T := by
      have := hN
      rwa [stay, List.take_length] at this
    refine dloop_up (fun t => List.contains [8, 11, 12, 13, 14, 15, 16, 41, 42, 43, 44, 45, 46, 47, 48, 49, 50, 51, 52, 53, 54, 55, 56, 57, 58, 59, 60, 61, 62, 63, 64, 65, 66, 67, 68, 69, 70, 71, 72, 73, 74, 75, 76, 77, 78, 79, 80, 81, 82, 83, 84, 85, 86, 87, 88, 89, 90, 91, 92, 93, 94, 95, 96, 97, 98, 99, 100, 101, 102, 103, 104, 105, 106, 107, 108, 109, 110, 111, 112] t) (by kernel_rfl) (by exact hT) b.ids.length (fun i g T => i ≤ b.ids.length ∧ g 41 = .v (.int .i64 ((i : Nat) : Int)) ∧ g 11 = u64D (if i = 0 then 0 else b.ids.getD (i - 1) 0) ∧ NowAt S1.next (lsOps (dOps k) p a b i).2 (g 8) T ∧ MAt m (l ++ (lsOps (dOps k) p a b i).1) T ∧ MFr m S1 T ∧ Now a b i (lsOps (dOps k) p a b i).2)
      ⟨by omega, by (first | (simp (disch := first | decide | omega | (simp only [nx]; first | done | omega)) only [go_sem, Nat.reduceMul]; first | done | rfl) | rfl), by (first | (simp (disch := first | decide | omega | (simp only [nx]; first | done | omega)) only [go_sem, Nat.reduceMul]; first | done | rfl) | rfl), hN0, hM0, hFT, Now.zero hal.nodup⟩ ?_
    clear hM0 hN0 hN hMT hFT hT ta tb hlo hlt hdl b1 q20
    rintro i g' T2 hT hgb ⟨le, q41, q11, hN, hMT, hFT, hNow⟩
    (have q0b := hgb 0 rfl; have q1b := hgb 1 rfl; have q6b := hgb 6 rfl; have q7b := hgb 7 rfl; have q39b := hgb 39 rfl; have q40b := hgb 40 rfl; simp (disch := first | decide | omega | (simp only [nx]; first | done | omega)) only [go_sem, Nat.reduceMul, q0, q1, q6, q7, q18, q19] at q0b q1b q6b q7b q39b q40b; clear hgb)
    have ta := hFT.box S.next _ _ (by omega) sa
    have tb := hFT.box (S.next + 1) _ _ (by omega) sb
    have hlo := hFT.next
    have hlt : m < T2.next := by omega
    have hdl := len_list (lenAt k) (p := p) h6 hA.ga hA.gb hA.rs i le
    have hnm := hNow.most
    have hnl := hNow.len le
    by_cases hi : i < b.ids.length
    · have b1 : decide ((i : Int) < (b.ids.length : Int)) = true := by simp; omega
      have w1 : IntKind.i64.wrap ((i : Int) + 1) = ((i + 1 : Nat) : Int) := IntWalk.i64_in _ ⟨by omega, by omega⟩
      have hbi : i < b.parts.length := by have := hbl.len; omega
      have hi11 : i * (1 + dMax k) + (1 + dMax k) ≤ 12 * (1 + dMax k) := by rw [← Nat.succ_mul]; exact Nat.mul_le_mul_right _ (by omega)
      have hnx11 : (if i + 1 = 0 then 0 else b.ids.getD (i + 1 - 1) 0) = b.ids[i] := by rw [if_neg (by omega), Nat.add_sub_cancel]; exact getD_at hi
      have hNr := hNow.round (f := dOps k) (p := p) hbl.nodup hbl.zero hi
      have hdr := len_round (lenAt k) (p := p) h6 hA.ga hA.gb hA.rs hi (lsOps (dOps k) p a b i).2
      have hls : lsOps (dOps k) p a b (i + 1) = ((lsOps (dOps k) p a b i).1 ++ (lsRound (dOps k) p a b i (lsOps (dOps k) p a b i).2).1, (lsRound (dOps k) p a b i (lsOps (dOps k) p a b i).2).2) := rfl
      have hid : (b.ids.getD i 0) = b.ids[i] := getD_at hi
      generalize lsOps (dOps k) p a b i = R at *
      obtain ⟨L, now⟩ := R
      simp only at *
      (simp (disch := first | decide | omega | (simp only [nx]; first | done | omega)) only [go_sem, Nat.reduceMul, q41, q0b, q1b, q6b, q7b, q39b, q40b, ta, tb, b1, hi]; (repeat (with_reducible refine And.intro (by first | omega | assumption | rfl) ?_)))
      refine DCalls.of_pure (elem_d a b.ids[i] (by omega)) ?_
      by_cases hx : b.ids[i] ∈ a.ids
      · have he : elemV a b.ids[i] = .tup [.v (.int .i64 (ixN a.ids b.ids[i] : Int)), .v (.bool true)] := by unfold elemV; rw [if_pos ⟨hal.kind, hx⟩]
        obtain ⟨hmem, hik, -⟩ := hNow.move hbl.nodup hi hx
        have hil : i < now.length := Nat.lt_of_le_of_lt hik (ix_lt hmem)
        obtain ⟨j, c, zs, q8, tj⟩ := hN.win (by omega)
        have hgl : (i * 1 < (now.map u64D ++ zs).length) = True := by simp; omega
        have hgd : (now.map u64D ++ zs).getD (i * 1) undefD = .v (.int .u64 (now[i] : Int)) := by
          rw [Nat.mul_one, getD_at (by simp; omega), List.getElem_append_left (by simpa using hil), List.getElem_map]; rfl
        obtain ⟨hai, hbi', hV⟩ := hA.elem h6 hi hx
        have hpa : a.parts.getD (ixN a.ids b.ids[i]) default = a.parts[ixN a.ids b.ids[i]] := getD_at hai
        by_cases hc : now[i] = b.ids[i]
        · have b2 : ((now[i] : Int) != (b.ids[i] : Int)) = false := by simp [hc]
          have hr : lsRound (dOps k) p a b i now = (dOps k (p ++ [([], b.ids[i])]) a.parts[ixN a.ids b.ids[i]] b.parts[i], now) := by
            unfold lsRound
            rw [hid, if_neg (by simpa using hx), getD_at hil, if_neg (by simpa using hc), hpa, getD_at hbi]
          rw [hr] at hls hNr
          (simp (disch := first | decide | omega | (simp only [nx]; first | done | omega)) only [go_sem, Nat.reduceMul, he, q41, q0b, q1b, q6b, q7b, q39b, q40b, ta, tb, b1, hi, q8, tj, hil, hgl, hgd, b2]; (repeat (with_reducible refine And.intro (by first | omega | assumption | rfl) ?_)))
          rw [hr] at hdr
          refine ddraw_mk 15 (by kernel_rfl) ?_
          (simp (disch := first | decide | omega | (simp only [nx]; first | done | omega)) only [go_sem, Nat.reduceMul, q0b, q1b, q6b, q7b, ta, tb, q41, hai, hbi]; (repeat (with_reducible refine And.intro (by first | omega | assumption | rfl) ?_)))
          refine dqgo_mk (behind_d own p ([], b.ids[i]) (by omega)) ?_
          (simp (disch := first | decide | omega | (simp only [nx]; first | done | omega)) only [go_sem, Nat.reduceMul, q0b, q1b, q6b, q7b, ta, tb, q41, hai, hbi]; (repeat (with_reducible refine And.intro (by first | omega | assumption | rfl) ?_)))
          refine (ih T2 m .no (l ++ L) (p ++ [([], b.ids[i])]) a.parts[ixN a.ids b.ids[i]] b.parts[i] (t.parts.getD 0 default) (by omega) hMT (by simp only [List.length_append, List.length_cons, List.length_nil] at hdr ⊢; omega) hV).mono ?_
          rintro _ T6 ⟨rfl, f1, f2⟩
          (simp (disch := first | decide | omega | (simp only [nx]; first | done | omega)) only [go_sem, Nat.reduceMul, q41, w1]; (repeat (with_reducible refine And.intro (by first | omega | assumption | rfl) ?_)))
          refine ⟨by omega, _, fun _ _ h => h, by omega, by (first | (simp (disch := first | decide | omega | (simp only [nx]; first | done | omega)) only [go_sem, Nat.reduceMul]; first | done | rfl) | rfl), ?_, ?_, ?_, ?_, ?_⟩
          · rw [hnx11]; (first | (simp (disch := first | decide | omega | (simp only [nx]; first | done | omega)) only [go_sem, Nat.reduceMul]; first | done | rfl) | rfl)
          · rw [hls]; exact (hN).fr (by omega) f2
          · rw [hls]; simpa [List.append_assoc] using f1
          · exact (hFT).trans f2
          · rw [hls]; exact hNr
        · have b2 : ((now[i] : Int) != (b.ids[i] : Int)) = true := by simp; omega
          have hr : lsRound (dOps k) p a b i now = (⟨4, p, b.ids[i], if i = 0 then 0 else b.ids.getD (i - 1) 0, zeroV⟩ :: dOps k (p ++ [([], b.ids[i])]) a.parts[ixN a.ids b.ids[i]] b.parts[i], ((now.take (ixN now b.ids[i]) ++ now.drop (ixN now b.ids[i] + 1)).take i) ++ [b.ids[i]] ++ (now.take (ixN now b.ids[i]) ++ now.drop (ixN now b.ids[i] + 1)).drop i) := by
            unfold lsRound
            rw [hid, if_neg (by simpa using hx), getD_at hil, if_pos (by simpa using hc), hpa, getD_at hbi]
          rw [hr] at hls hNr hdr
          generalize hafe : (if i = 0 then 0 else b.ids.getD (i - 1) 0) = af at *
          (simp (disch := first | decide | omega | (simp only [nx]; first | done | omega)) only [go_sem, Nat.reduceMul, he, q41, q0b, q1b, q6b, q7b, q39b, q40b, ta, tb, b1, hi, q8, tj, hil, hgl, hgd, b2, q11, u64D]; (repeat (with_reducible refine And.intro (by first | omega | assumption | rfl) ?_)))
          refine DCalls.weak ((add_w .no ⟨4, p, b.ids[i], af, zeroV⟩ hlt hMT (by simp; omega) (by show p.length ≤ 1000000; omega)).wf.mono ?_) (by simp only [frzL, D.frz, frz_mapPk]; rfl)
          rintro _ T3 ⟨⟨rfl, g1, g2⟩, hT3⟩
          (simp (disch := first | decide | omega | (simp only [nx]; first | done | omega)) only [go_sem, Nat.reduceMul, q0b, q1b, q8]; (repeat (with_reducible refine And.intro (by first | omega | assumption | rfl) ?_)))
          rw [← q8]
          have hN3 := hN.fr (by omega) g2
          have hn3 := g2.next
          refine (now_ix hN3 hmem (by omega)).mono ?_
          rintro _ _ ⟨rfl, hTe⟩
          rw [hTe]
          clear hTe
          have hixl := ix_lt hmem
          have w2 : IntKind.i64.wrap (((ixN now b.ids[i] : Nat) : Int) + 1) = ((ixN now b.ids[i] + 1 : Nat) : Int) := IntWalk.i64_in _ ⟨by omega, by omega⟩
          (simp (disch := first | decide | omega | (simp only [nx]; first | done | omega)) only [go_sem, Nat.reduceMul, w2]; (repeat (with_reducible refine And.intro (by first | omega | assumption | rfl) ?_)))
          refine (now_del hN3 hT3 hixl (by omega)).mono ?_
          rintro d4 T4 ⟨g3, g4, hT4⟩
          obtain ⟨-, -, -, -, hll, -, -⟩ := hNow.move hbl.nodup hi hx
          have hml : (now.take (ixN now b.ids[i]) ++ now.drop (ixN now b.ids[i] + 1)).length ≤ 1000000 := by simp only [List.length_append, List.length_take, List.length_drop]; omega
          have hn4 := g4.next
          (simp (disch := first | decide | omega | (simp only [nx]; first | done | omega)) only [go_sem, Nat.reduceMul, q41]; (repeat (with_reducible refine And.intro (by first | omega | assumption | rfl) ?_)))
          refine (now_ins (x := b.ids[i]) g3 hT4 (by omega) hll hml).mono ?_
          rintro d5 T5 ⟨g5, g6⟩
          have hF5 : MFr m S1 T5 := (hFT.trans g2).gw hS1 (g4.trans g6)
          have ta5 := hF5.box S.next _ _ (by omega) sa
          have tb5 := hF5.box (S.next + 1) _ _ (by omega) sb
          have hn5 := hF5.next
          have hM5 : MAt m (l ++ (L ++ [⟨4, p, b.ids[i], af, zeroV⟩])) T5 := by rw [← List.append_assoc]; exact g1.gw (by omega) (g4.trans g6)
          (simp (disch := first | decide | omega | (simp only [nx]; first | done | omega)) only [go_sem, Nat.reduceMul, q0b, q1b, q6b, q7b]; (repeat (with_reducible refine And.intro (by first | omega | assumption | rfl) ?_)))
          refine ddraw_mk 15 (by kernel_rfl) ?_
          (simp (disch := first | decide | omega | (simp only [nx]; first | done | omega)) only [go_sem, Nat.reduceMul, q0b, q1b, q6b, q7b, ta5, tb5, q41, hai, hbi]; (repeat (with_reducible refine And.intro (by first | omega | assumption | rfl) ?_)))
          refine dqgo_mk (behind_d own p ([], b.ids[i]) (by omega)) ?_
          (simp (disch := first | decide | omega | (simp only [nx]; first | done | omega)) only [go_sem, Nat.reduceMul, q0b, q1b, q6b, q7b, ta5, tb5, q41, hai, hbi]; (repeat (with_reducible refine And.intro (by first | omega | assumption | rfl) ?_)))
          refine (ih T5 m .no (l ++ (L ++ [⟨4, p, b.ids[i], af, zeroV⟩])) (p ++ [([], b.ids[i])]) a.parts[ixN a.ids b.ids[i]] b.parts[i] (t.parts.getD 0 default) (by omega) hM5 (by simp only [List.length_append, List.length_cons, List.length_nil] at hdr ⊢; omega) hV).mono ?_
          rintro _ T6 ⟨rfl, f1, f2⟩
          (simp (disch := first | decide | omega | (simp only [nx]; first | done | omega)) only [go_sem, Nat.reduceMul, q41, w1]; (repeat (with_reducible refine And.intro (by first | omega | assumption | rfl) ?_)))
          refine ⟨by omega, _, fun _ _ h => h, by omega, by (first | (simp (disch := first | decide | omega | (simp only [nx]; first | done | omega)) only [go_sem, Nat.reduceMul]; first | done | rfl) | rfl), ?_, ?_, ?_, ?_, ?_⟩
          · rw [hnx11]; (first | (simp (disch := first | decide | omega | (simp only [nx]; first | done | omega)) only [go_sem, Nat.reduceMul]; first | done | rfl) | rfl)
          · rw [hls]; exact (g5).fr (by omega) f2
          · rw [hls]; simpa [List.append_assoc] using f1
          · exact (hF5).trans f2
          · rw [hls]; exact hNr
      · have he : elemV a b.ids[i] = .tup [.v (.int .i64 0), .v (.bool false)] := by unfold elemV; rw [if_neg (fun h => hx h.2)]
        (simp (disch := first | decide | omega | (simp only [nx]; first | done | omega)) only [go_sem, Nat.reduceMul, he, q41, q0b, q1b, q6b, q7b, q39b, q40b, ta, tb, b1, hi, hbi]; (repeat (with_reducible refine And.intro (by first | omega | assumption | rfl) ?_)))
        have hbw : b.parts[i].weight ≤ 1000000 := by have := DVal.weight_part (List.getElem_mem hbi); have := hA.wb; omega
        refine DCalls.of_pure (copyV_d b.parts[i].depth b.parts[i] (Nat.le_refl _) hbw) ?_
        have hr : lsRound (dOps k) p a b i now = ([⟨2, p, b.ids[i], if i = 0 then 0 else b.ids.getD (i - 1) 0, b.parts[i]⟩], now.take i ++ [b.ids[i]] ++ now.drop i) := by
          unfold lsRound
          rw [hid, if_pos hx, getD_at hbi]
        rw [hr] at hls hNr
        generalize hafe : (if i = 0 then 0 else b.ids.getD (i - 1) 0) = af at *
        (simp (disch := first | decide | omega | (simp only [nx]; first | done | omega)) only [go_sem, Nat.reduceMul, q11, q0b, q1b, q6b, q7b, tb, hi, u64D]; (repeat (with_reducible refine And.intro (by first | omega | assumption | rfl) ?_)))
        refine (add_w own ⟨2, p, b.ids[i], af, b.parts[i]⟩ hlt hMT (by simp; omega) (by show p.length ≤ 1000000; omega)).wf.mono ?_
        rintro _ T3 ⟨⟨rfl, g1, g2⟩, hT3⟩
        (simp (disch := first | decide | omega | (simp only [nx]; first | done | omega)) only [go_sem, Nat.reduceMul, q11, q0b, q1b, q6b, q7b, tb, hi, u64D]; (repeat (with_reducible refine And.intro (by first | omega | assumption | rfl) ?_)))
        have hN3 := hN.fr (by omega) g2
        have hn3 := g2.next
        refine (now_ins (x := b.ids[i]) hN3 hT3 (by omega) hnl (by omega)).mono ?_
        rintro d' T4 ⟨g3, g4⟩
        (simp (disch := first | decide | omega | (simp only [nx]; first | done | omega)) only [go_sem, Nat.reduceMul, q41, w1]; (repeat (with_reducible refine And.intro (by first | omega | assumption | rfl) ?_)))
        refine ⟨by omega, _, fun _ _ h => h, by omega, by (first | (simp (disch := first | decide | omega | (simp only [nx]; first | done | omega)) only [go_sem, Nat.reduceMul]; first | done | rfl) | rfl), ?_, ?_, ?_, ?_, ?_⟩
        · rw [hnx11]; (first | (simp (disch := first | decide | omega | (simp only [nx]; first | done | omega)) only [go_sem, Nat.reduceMul]; first | done | rfl) | rfl)
        · rw [hls]; exact g3
        · rw [hls, ← List.append_assoc]; exact g1.gw (by omega) g4
        · exact (hFT.trans g2).gw hS1 g4
        · rw [hls]; exact hNr
    · have b1 : decide ((i : Int) < (b.ids.length : Int)) = false := by simp; omega
      have hie : i = b.ids.length := by omega
      subst hie
      (simp (disch := first | decide | omega | (simp only [nx]; first | done | omega)) only [go_sem, Nat.reduceMul, q41, q0b, q1b, q6b, q7b, q39b, q40b, ta, tb, b1]; (repeat (with_reducible refine And.intro (by first | omega | assumption | rfl) ?_)))
      exact hF1.trans hFT
end Go.Proofs.YtjjhjhjphhpeiaaGreatDoor

namespace Go.Proofs.YtjjhjhjphhpeiaaGreatDoor
open Go.RowKit
set_option linter.unusedSimpArgs false
set_option linter.unusedVariables false
set_option maxRecDepth 200000 in
set_option maxHeartbeats 8000000 in
theorem valOk : ∀ k, ValOk k
  | 0 => fun S m own l p a b t hm hM hl hA => by have := hA.dep; have := a.depth_pos; omega
  | k + 1 => fun S m own l p a b t hm hM hl hA => by
    have ih := valOk k
    have hdm : dMax (k + 1) = 24 + 12 * dMax k := rfl
    have hpl := hA.len
    have hkd := hA.ga.kind
    by_cases h56 : a.kind ≠ 5 ∧ a.kind ≠ 6 ∧ eqB a b = false
    · have := mval_set own p a b hm hM (by omega) (by omega) hA.oka hA.okb hA.wa hA.wb h56.1 h56.2.1 h56.2.2
      rw [dOps, if_neg (by rw [h56.2.2]; simp), if_neg h56.1, if_neg h56.2.1]
      exact this
    refine dcalls_inline mixed Tryz.func32 rfl (fun _ _ => by kernel_rfl) (rs := []) rfl (by kernel_rfl) (fun hS => ?_)
    (simp (disch := first | decide | omega | (simp only [nx]; first | done | omega)) only [go_sem, Nat.reduceMul]; (repeat (with_reducible refine And.intro (by first | omega | assumption | rfl) ?_)))
    obtain ⟨S1, hS1e⟩ : ∃ S1, (S.add (.box 29 (encV a).cells)).add (.box 29 (encV b).cells) = S1 := ⟨_, rfl⟩
    have hS1 : S1.WF := by rw [← hS1e]; exact (hS.add _).add _
    have hn1 : S1.next = S.next + 2 := by rw [← hS1e]; rfl
    have sa : S1.ob S.next = some (.box 29 (encV a).cells) := by rw [← hS1e]; (first | (simp (disch := first | decide | omega | (simp only [nx]; first | done | omega)) only [go_sem, Nat.reduceMul]; first | done | rfl) | rfl)
    have sb : S1.ob (S.next + 1) = some (.box 29 (encV b).cells) := by rw [← hS1e]; (first | (simp (disch := first | decide | omega | (simp only [nx]; first | done | omega)) only [go_sem, Nat.reduceMul]; first | done | rfl) | rfl)
    have hM1 : MAt m l S1 := by rw [← hS1e]; exact hM.keep fun j o e => keep_add (hS.add _) _ j o (keep_add hS _ j o e)
    have hF1 : MFr m S S1 := by rw [← hS1e]; exact MFr.of_keep (by show S.next ≤ S.next + 1 + 1; omega) fun j o e => keep_add (hS.add _) _ j o (keep_add hS _ j o e)
    rw [hS1e]
    clear hS1e
    refine DCalls.of_pure (valSame_d a.depth a b (Nat.le_refl _) hA.wa hA.wb) ?_
    cases heq : eqB a b with
    | true =>
      (simp (disch := first | decide | omega | (simp only [nx]; first | done | omega)) only [go_sem, Nat.reduceMul]; (repeat (with_reducible refine And.intro (by first | omega | assumption | rfl) ?_)))
      rw [dOps, if_pos heq, List.append_nil]
      exact ⟨hM1, hF1⟩
    | false =>
    rw [dOps, if_neg (by rw [heq]; simp)]
    by_cases h5 : a.kind = 5
    · have b5 : (a.kind == 5) = true := by simp [h5]
      rw [if_pos h5]
      have hmost := (recd_most hA.ga).1
      (simp (disch := first | decide | omega | (simp only [nx]; first | done | omega)) only [go_sem, Nat.reduceMul, b5, sa, sb]; (repeat (with_reducible refine And.intro (by first | omega | assumption | rfl) ?_)))
      refine dloop_up (fun t => List.contains [8, 9, 27, 28, 29, 30, 31, 32, 33, 34, 35, 36, 37, 38, 39, 40, 41, 42, 43, 44, 45, 46, 47, 48] t) (by kernel_rfl) (by exact hS1) a.names.length (fun i g T => i ≤ a.names.length ∧ g 27 = .v (.int .i64 ((i : Nat) : Int)) ∧ MAt m (l ++ (List.range i).flatMap fun i => dOps k (p ++ [(a.names.getD i [], 0)]) (a.parts.getD i default) (b.parts.getD i default)) T ∧ MFr m S1 T)
        ⟨by omega, by (first | (simp (disch := first | decide | omega | (simp only [nx]; first | done | omega)) only [go_sem, Nat.reduceMul]; first | done | rfl) | rfl), by simpa using hM1, MFr.refl _ _⟩ ?_
      rintro i g T hT hg ⟨le, q27, hMT, hFT⟩
      (have q0 := hg 0 rfl; have q1 := hg 1 rfl; have q6 := hg 6 rfl; have q7 := hg 7 rfl; have q25 := hg 25 rfl; have q26 := hg 26 rfl; simp (disch := first | decide | omega | (simp only [nx]; first | done | omega)) only [go_sem, Nat.reduceMul] at q0 q1 q6 q7 q25 q26; clear hg)
      have ta := hFT.box S.next _ _ (by omega) sa
      have tb := hFT.box (S.next + 1) _ _ (by omega) sb
      have hlo := hFT.next
      have hlt : m < T.next := by omega
      have hdl := len_rec (lenAt k) (p := p) (by omega) hA.ga hA.gb hA.rs i le
      by_cases hi : i < a.names.length
      · have b1 : decide ((i : Int) < (a.names.length : Int)) = true := by simp; omega
        have w1 : IntKind.i64.wrap ((i : Int) + 1) = ((i + 1 : Nat) : Int) := IntWalk.i64_in _ ⟨by omega, by omega⟩
        obtain ⟨hai, hbi, u, hV⟩ := hA.field (by omega) hi
        have hi7 : i * dMax k + dMax k ≤ 12 * dMax k := by rw [← Nat.succ_mul]; exact Nat.mul_le_mul_right _ (by omega)
        have hnm : a.names.getD i [] = a.names[i] := getD_at hi
        have hr : (List.range (i + 1)).flatMap (fun i => dOps k (p ++ [(a.names.getD i [], 0)]) (a.parts.getD i default) (b.parts.getD i default)) = ((List.range i).flatMap fun i => dOps k (p ++ [(a.names.getD i [], 0)]) (a.parts.getD i default) (b.parts.getD i default)) ++ dOps k (p ++ [(a.names.getD i [], 0)]) a.parts[i] b.parts[i] := by
          rw [List.range_succ, List.flatMap_append, List.flatMap_cons, List.flatMap_nil, List.append_nil, getD_at hai, getD_at hbi]
        (simp (disch := first | decide | omega | (simp only [nx]; first | done | omega)) only [go_sem, Nat.reduceMul, q27, q0, q1, q6, q7, q25, q26, ta, tb, b1, hi, strD]; (repeat (with_reducible refine And.intro (by first | omega | assumption | rfl) ?_)))
        refine ddraw_mk 15 (by kernel_rfl) ?_
        (simp (disch := first | decide | omega | (simp only [nx]; first | done | omega)) only [go_sem, Nat.reduceMul, q27, q0, q1, q6, q7, q25, q26, ta, tb, hai, hbi]; (repeat (with_reducible refine And.intro (by first | omega | assumption | rfl) ?_)))
        refine dqgo_mk (behind_d own p (a.names[i], 0) (by omega)) ?_
        (simp (disch := first | decide | omega | (simp only [nx]; first | done | omega)) only [go_sem, Nat.reduceMul, q27, q0, q1, q6, q7, q25, q26, ta, tb, hai, hbi]; (repeat (with_reducible refine And.intro (by first | omega | assumption | rfl) ?_)))
        rw [hnm] at hr hV
        refine (ih T m .no (l ++ _) (p ++ [(a.names[i], 0)]) a.parts[i] b.parts[i] u (by omega) hMT (by simp only [List.length_append]; omega) hV).mono ?_
        rintro _ T2 ⟨rfl, g1, g2⟩
        (simp (disch := first | decide | omega | (simp only [nx]; first | done | omega)) only [go_sem, Nat.reduceMul, q27, w1]; (repeat (with_reducible refine And.intro (by first | omega | assumption | rfl) ?_)))
        refine ⟨by omega, _, fun _ _ h => h, by omega, by (first | (simp (disch := first | decide | omega | (simp only [nx]; first | done | omega)) only [go_sem, Nat.reduceMul]; first | done | rfl) | rfl), ?_, hFT.trans g2⟩
        rw [hr, ← List.append_assoc]
        exact g1
      · have b1 : decide ((i : Int) < (a.names.length : Int)) = false := by simp; omega
        have hie : i = a.names.length := by omega
        subst hie
        (simp (disch := first | decide | omega | (simp only [nx]; first | done | omega)) only [go_sem, Nat.reduceMul, q27, q0, q1, q6, q7, q25, q26, b1]; (repeat (with_reducible refine And.intro (by first | omega | assumption | rfl) ?_)))
        exact hF1.trans hFT
    · have h6 : a.kind = 6 := by
        by_cases h6 : a.kind = 6
        · exact h6
        · exact absurd ⟨h5, h6, heq⟩ h56
      have b5 : (a.kind == 5) = false := by simp [h5]
      have b6 : (a.kind == 6) = true := by simp [h6]
      rw [if_neg h5, if_pos h6]
      (simp (disch := first | decide | omega | (simp only [nx]; first | done | omega)) only [go_sem, Nat.reduceMul, b5, b6, sa, sb]; (repeat (with_reducible refine And.intro (by first | omega | assumption | rfl) ?_)))
      refine (list_w ih own (by omega) (by omega) hM1 (by omega) hA).mono ?_
      rintro _ T ⟨rfl, g1, g2⟩
      (simp (disch := first | decide | omega | (simp only [nx]; first | done | omega)) only [go_sem, Nat.reduceMul]; (repeat (with_reducible refine And.intro (by first | omega | assumption | rfl) ?_)))
      exact hF1.trans g2
end Go.Proofs.YtjjhjhjphhpeiaaGreatDoor
