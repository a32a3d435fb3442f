/- Texts of a proof, part 8. Conditions: none. -/
import Derived.Test.YtjjhjhjphhpeiaaL7
set_option linter.unusedVariables false
set_option linter.unusedSimpArgs false
namespace Go.Proofs.Ytjjhjhjphhpeiaa
open Go.RowKit
theorem rise_lt {l : List Str} (h : ∀ i, i < l.length → riseOk l i = true) : ∀ (d i : Nat), i + d + 1 < l.length → sLt (l.getD i []) (l.getD (i + d + 1) []) = true
  | 0, i, hi => by
    have := h (i + 1) hi
    simp only [riseOk, Bool.and_eq_true, Bool.or_eq_true, decide_eq_true_eq, Nat.add_sub_cancel] at this
    rcases this.2 with h1 | h1
    · omega
    · exact h1
  | d + 1, i, hi => by
    have h1 := rise_lt h d i (by omega)
    have := h (i + (d + 1) + 1) hi
    simp only [riseOk, Bool.and_eq_true, Bool.or_eq_true, decide_eq_true_eq, Nat.add_sub_cancel] at this
    rcases this.2 with h2 | h2
    · omega
    · exact sLt_trans h1 h2
theorem rise_first {l : List Str} (h : ∀ i, i < l.length → riseOk l i = true) {i : Nat} (hi : i < l.length) : ixN l l[i] = i := idx_of_first hi fun j hj => by
  have h1 := rise_lt h (i - j - 1) j (by omega)
  rw [show j + (i - j - 1) + 1 = i by omega, getD_at (by omega), getD_at hi] at h1
  intro e
  rw [e, sLt_irrefl] at h1
  cases h1
theorem ids_first {l : List Nat} (h : ∀ i, i < l.length → idOk l i = true) {i : Nat} (hi : i < l.length) : ixN l l[i] = i := idx_of_first hi fun j hj e => by
  have h1 := h i hi
  simp only [idOk, Bool.and_eq_true, Bool.not_eq_true', decide_eq_false_iff_not] at h1
  apply h1.2
  rw [getD_at hi, ← e]
  rw [List.mem_take_iff_getElem]
  exact ⟨j, by omega, rfl⟩
/-- The place of the step to part i is i. -/
theorem place_step {v : DVal} (hv : RV v) {i : Nat} (hi : i < v.parts.length) : placeOf v (stepV v i) = (i : Int) := by
  have hst := hv.steps hi
  have hh := hv.here
  obtain ⟨m, h1, h2⟩ := hv
  obtain ⟨m, rfl⟩ : ∃ n, m = n + 1 := ⟨m - 1, by have := v.depth_pos; omega⟩
  rw [soundV, Bool.and_eq_true, hereV, Bool.and_eq_true, Bool.and_eq_true, Bool.and_eq_true, List.all_eq_true, List.all_eq_true] at h2
  have hr := fun i (hi : i < v.names.length) => h2.1.2.1 i (List.mem_range.2 hi)
  have hd := fun i (hi : i < v.ids.length) => h2.1.2.2 i (List.mem_range.2 hi)
  unfold placeOf stepV
  by_cases h5 : v.kind = 5
  · have hn := hst.1 h5
    have hne : v.names[i] ≠ [] := by
      have := hr i hn
      simp only [riseOk, nameB, Bool.and_eq_true, decide_eq_true_eq] at this
      have h3 := this.1.2.1
      rw [getD_at hn] at h3
      intro e; rw [e] at h3; simp at h3
    rw [if_pos h5, getD_at hn, if_neg hne, if_pos]
    · rw [rise_first hr hn]
    · refine ⟨?_, List.getElem_mem hn⟩
      have h6 : v.ids.length = 0 := hh.2.1 (by omega)
      simp only [wholeB, h5, decide_true, Bool.true_and, decide_eq_true_eq]
      omega
  · have hn := hst.2 h5
    have h6 : v.kind = 6 := by
      by_cases h6 : v.kind = 6
      · exact h6
      · have := hh.2.1 h6; omega
    rw [if_neg h5, getD_at hn, if_pos rfl, if_pos ⟨h6, List.getElem_mem hn⟩, ids_first hd hn]
end Go.Proofs.Ytjjhjhjphhpeiaa

namespace Go.Proofs.Ytjjhjhjphhpeiaa
open Go.RowKit
set_option linter.unusedSimpArgs false
attribute [go_sem] sv_beq
def zeroS : DSch := .mk 0 [] []
theorem schCopy_d (s : DSch) (hok : okS s) (hw : s.weight ≤ 1000000) : DPure Try.prog 102 [encS s] (encS s) := fun S _ η w vs hM hr => by
  obtain ⟨cs, rfl, hv⟩ := arg_sch hok hr
  exact .inl ⟨by kernel_rfl, (schCopy_calls s.depth s cs w (Nat.le_refl _) hw hv).mono fun _ w' ⟨cs, he, hv, hb⟩ => ⟨encS s, _, η, .agg cs.toArray, ⟨rfl, rfl⟩, he, rep_sch (F := fun b => w.heap.size ≤ b ∧ b < w'.heap.size) (fun b i hF k o h1 _ => by have := (hM.in_ k b h1).2; omega) hv, goes_below hM hb⟩⟩
def wholeS (s : DSch) : Bool := decide (s.kind = 5) && decide (s.words.length ≤ s.parts.length)
set_option maxRecDepth 200000 in
set_option maxHeartbeats 4000000 in
theorem wholeS_d (s : DSch) : DPure Try.prog 124 [encS s] (.v (.bool (wholeS s))) := by
  refine dpure_of_dwp mixed Try.func124 rfl (fun _ _ => by kernel_rfl) (rs := [.tmp 2]) rfl (by kernel_rfl) trivial (fun S hS => ?_)
  by_cases h5 : s.kind = 5
  · have b5 : (s.kind == 5) = true := by simp [h5]
    (simp (disch := first | decide | omega | (simp only [nx]; first | done | omega)) only [go_sem, Nat.reduceMul, encS_eq s, b5]; (repeat (with_reducible refine And.intro (by first | omega | assumption | rfl) ?_)))
    refine ⟨?_, (by (repeat' first | assumption | exact St.Sub.refl _ | exact RowOk.sub (by assumption) (by assumption) | refine St.Sub.trans ?_ (RowOk.sub (by assumption) (by assumption)) | refine St.Sub.add ?_ ?_ _ | refine St.Sub.set ?_ ?_ ?_ _ | refine St.Sub.keep ?_ ?_ | refine St.WF.leave ?_ _ | refine St.WF.add ?_ _ | refine St.WF.set ?_ ?_ _ | refine St.WF.grow ?_ _ _ _ | refine St.WF.keep ?_ ?_ | (first | omega | (simp only [RowOk.lo, nx]; first | done | omega))))⟩
    simp only [D.frz, wholeS, decide_eq_true h5, Bool.true_and]
    congr 3
    exact propext ⟨fun h => by omega, fun h => by omega⟩
  · have b5 : (s.kind == 5) = false := by simp [h5]
    (simp (disch := first | decide | omega | (simp only [nx]; first | done | omega)) only [go_sem, Nat.reduceMul, encS_eq s, b5]; (repeat (with_reducible refine And.intro (by first | omega | assumption | rfl) ?_)))
    refine ⟨?_, (by (repeat' first | assumption | exact St.Sub.refl _ | exact RowOk.sub (by assumption) (by assumption) | refine St.Sub.trans ?_ (RowOk.sub (by assumption) (by assumption)) | refine St.Sub.add ?_ ?_ _ | refine St.Sub.set ?_ ?_ ?_ _ | refine St.Sub.keep ?_ ?_ | refine St.WF.leave ?_ _ | refine St.WF.add ?_ _ | refine St.WF.set ?_ ?_ _ | refine St.WF.grow ?_ _ _ _ | refine St.WF.keep ?_ ?_ | (first | omega | (simp only [RowOk.lo, nx]; first | done | omega))))⟩
    simp only [D.frz, wholeS, decide_eq_false h5, Bool.false_and]
def fieldS (s : DSch) (x : Str) : Option DSch := if wholeS s = true ∧ x ∈ s.words then some (s.parts.getD (ixN s.words x) default) else none
def tupS (o : Option DSch) : D := .tup [encS (o.getD zeroS), .v (.bool o.isSome)]
theorem tupS_closed (o : Option DSch) : (tupS o).closed := by
  simp only [tupS, D.closed, D.all, allL, and_true]; exact closed_encS _
theorem frz_tupS (s : DSch) (b : Bool) : (D.tup [encS s, .v (.bool b)]).frz = .tup [encS s, .v (.bool b)] := by simp only [D.frz, frzL, frz_encS]
theorem fieldS_cases {s : DSch} {x : Str} (h : wholeS s = true) (hm : x ∈ s.words) : ∃ hpl : ixN s.words x < s.parts.length, fieldS s x = some s.parts[ixN s.words x] := by
  have h1 := ix_lt hm
  have hpl : ixN s.words x < s.parts.length := by
    simp only [wholeS, Bool.and_eq_true, decide_eq_true_eq] at h
    omega
  exact ⟨hpl, by rw [fieldS, if_pos ⟨h, hm⟩, getD_at hpl]⟩
set_option maxRecDepth 200000 in
set_option maxHeartbeats 4000000 in
theorem fieldS_d (s : DSch) (x : Str) (hok : okS s) (hw : s.weight ≤ 1000000) : DPure Try.prog 101 [encS s, .v (sv x)] (tupS (fieldS s x)) := by
  obtain ⟨o1, o2, o3, o4, o5⟩ := (okS_eq s).1 hok
  refine dpure_of_dwp mixed Try.func101 rfl (fun _ _ => by kernel_rfl) (rs := [.cell 4 47, .tmp 5]) rfl (by kernel_rfl) (tupS_closed _) (fun S hS => ?_)
  have ec := encS_eq s
  (simp (disch := first | decide | omega | (simp only [nx]; first | done | omega)) only [go_sem, Nat.reduceMul]; (repeat (with_reducible refine And.intro (by first | omega | assumption | rfl) ?_)))
  refine DCalls.of_pure (strIndex_d .no s.words x o3) ?_
  (simp (disch := first | decide | omega | (simp only [nx]; first | done | omega)) only [go_sem, Nat.reduceMul]; (repeat (with_reducible refine And.intro (by first | omega | assumption | rfl) ?_)))
  refine DCalls.of_pure (wholeS_d s) ?_
  cases hwb : wholeS s with
  | true =>
    by_cases hm : x ∈ s.words
    · have b7 : decide (ixI s.words x < 0) = false := by unfold ixI; rw [if_pos hm]; simp
      obtain ⟨hpl, hf⟩ := fieldS_cases hwb hm
      have hi : ixI s.words x = (ixN s.words x : Int) := by unfold ixI; rw [if_pos hm]
      have b8 : decide ((ixN s.words x : Int) < 0) = false := by simp
      (simp (disch := first | decide | omega | (simp only [nx]; first | done | omega)) only [go_sem, Nat.reduceMul, hi, b8]; (repeat (with_reducible refine And.intro (by first | omega | assumption | rfl) ?_)))
      refine DCalls.of_pure (schCopy_d s.parts[ixN s.words x] (o5 _ (List.getElem_mem hpl)) (by have := DSch.weight_part (List.getElem_mem hpl); omega)) ?_
      (simp (disch := first | decide | omega | (simp only [nx]; first | done | omega)) only [go_sem, Nat.reduceMul]; (repeat (with_reducible refine And.intro (by first | omega | assumption | rfl) ?_)))
      refine ⟨?_, (by (repeat' first | assumption | exact St.Sub.refl _ | exact RowOk.sub (by assumption) (by assumption) | refine St.Sub.trans ?_ (RowOk.sub (by assumption) (by assumption)) | refine St.Sub.add ?_ ?_ _ | refine St.Sub.set ?_ ?_ ?_ _ | refine St.Sub.keep ?_ ?_ | refine St.WF.leave ?_ _ | refine St.WF.add ?_ _ | refine St.WF.set ?_ ?_ _ | refine St.WF.grow ?_ _ _ _ | refine St.WF.keep ?_ ?_ | (first | omega | (simp only [RowOk.lo, nx]; first | done | omega))))⟩
      rw [frz_tupS, hf]
      rfl
    · have b7 : decide (ixI s.words x < 0) = true := by unfold ixI; rw [if_neg hm]; decide
      (simp (disch := first | decide | omega | (simp only [nx]; first | done | omega)) only [go_sem, Nat.reduceMul, b7]; (repeat (with_reducible refine And.intro (by first | omega | assumption | rfl) ?_)))
      refine ⟨?_, (by (repeat' first | assumption | exact St.Sub.refl _ | exact RowOk.sub (by assumption) (by assumption) | refine St.Sub.trans ?_ (RowOk.sub (by assumption) (by assumption)) | refine St.Sub.add ?_ ?_ _ | refine St.Sub.set ?_ ?_ ?_ _ | refine St.Sub.keep ?_ ?_ | refine St.WF.leave ?_ _ | refine St.WF.add ?_ _ | refine St.WF.set ?_ ?_ _ | refine St.WF.grow ?_ _ _ _ | refine St.WF.keep ?_ ?_ | (first | omega | (simp only [RowOk.lo, nx]; first | done | omega))))⟩
      rw [fieldS, if_neg (fun h => hm h.2)]
      rfl
  | false =>
    (simp (disch := first | decide | omega | (simp only [nx]; first | done | omega)) only [go_sem, Nat.reduceMul]; (repeat (with_reducible refine And.intro (by first | omega | assumption | rfl) ?_)))
    refine ⟨?_, (by (repeat' first | assumption | exact St.Sub.refl _ | exact RowOk.sub (by assumption) (by assumption) | refine St.Sub.trans ?_ (RowOk.sub (by assumption) (by assumption)) | refine St.Sub.add ?_ ?_ _ | refine St.Sub.set ?_ ?_ ?_ _ | refine St.Sub.keep ?_ ?_ | refine St.WF.leave ?_ _ | refine St.WF.add ?_ _ | refine St.WF.set ?_ ?_ _ | refine St.WF.grow ?_ _ _ _ | refine St.WF.keep ?_ ?_ | (first | omega | (simp only [RowOk.lo, nx]; first | done | omega))))⟩
    rw [fieldS, if_neg (fun h => by rw [h.1] at hwb; cases hwb)]
    rfl
end Go.Proofs.Ytjjhjhjphhpeiaa

namespace Go.Proofs.Ytjjhjhjphhpeiaa
open Go.RowKit
set_option linter.unusedSimpArgs false
/-- The type in a place. -/
def typS : List DStp → DSch → Option DSch
  | [], s => some s
  | p :: ps, s => if p.1 = [] then (if s.kind = 6 ∧ p.2 ≠ 0 ∧ 0 < s.parts.length then typS ps (s.parts.getD 0 default) else none) else match fieldS s p.1 with
    | some t => typS ps t
    | none => none
def stepT (s : DSch) (p : DStp) : Option DSch := if p.1 = [] then (if s.kind = 6 ∧ p.2 ≠ 0 ∧ 0 < s.parts.length then some (s.parts.getD 0 default) else none) else fieldS s p.1
theorem typS_cons (p : DStp) (ps : List DStp) (s : DSch) : typS (p :: ps) s = (stepT s p).bind (typS ps) := by
  rw [typS, stepT]
  split
  · split <;> rfl
  · cases fieldS s p.1 <;> rfl
theorem typS_app : ∀ (ps qs : List DStp) (s : DSch), typS (ps ++ qs) s = (typS ps s).bind (typS qs)
  | [], qs, s => rfl
  | p :: ps, qs, s => by
    rw [List.cons_append, typS_cons, typS_cons, Option.bind_assoc]
    congr 1
    funext t
    exact typS_app ps qs t
def typA (ps : List DStp) (s : DSch) (i : Nat) : DSch := (typS (ps.take i) s).getD zeroS
theorem typA_succ {ps : List DStp} {s : DSch} {i : Nat} (hi : i < ps.length) (h : (typS (ps.take i) s).isSome = true) : typS (ps.take (i + 1)) s = stepT (typA ps s i) ps[i] := by
  rw [List.take_succ_eq_append_getElem hi, typS_app]
  obtain ⟨t, ht⟩ := Option.isSome_iff_exists.1 h
  rw [typA, ht]
  show typS [ps[i]] t = stepT t ps[i]
  rw [typS_cons]
  cases stepT t ps[i] <;> rfl
theorem typS_none {ps : List DStp} {s : DSch} {i : Nat} (h : typS (ps.take i) s = none) : typS ps s = none := by
  have := typS_app (ps.take i) (ps.drop i) s
  rw [List.take_append_drop] at this
  rw [this, h]; rfl
theorem fieldS_mem {s t : DSch} {x : Str} (h : fieldS s x = some t) : t ∈ s.parts := by
  by_cases hc : wholeS s = true ∧ x ∈ s.words
  · obtain ⟨hpl, hf⟩ := fieldS_cases hc.1 hc.2
    rw [hf] at h
    injection h with h
    rw [← h]; exact List.getElem_mem hpl
  · rw [fieldS, if_neg hc] at h; cases h
theorem stepT_mem {s t : DSch} {p : DStp} (h : stepT s p = some t) : t ∈ s.parts := by
  unfold stepT at h
  split at h
  · split at h
    · rename_i hc
      injection h with h
      rw [← h, getD_at hc.2.2]; exact List.getElem_mem _
    · cases h
  · exact fieldS_mem h
theorem typS_fine : ∀ (ps : List DStp) {s t : DSch}, typS ps s = some t → okS s → s.weight ≤ 1000000 → okS t ∧ t.weight ≤ 1000000
  | [], s, t, h, ho, hw => by injection h with h; subst h; exact ⟨ho, hw⟩
  | p :: ps, s, t, h, ho, hw => by
    rw [typS_cons] at h
    cases hs : stepT s p with
    | none => rw [hs] at h; cases h
    | some u =>
      rw [hs] at h
      have hm := stepT_mem hs
      exact typS_fine ps h (((okS_eq s).1 ho).2.2.2.2 u hm) (by have := DSch.weight_part hm; omega)
set_option maxRecDepth 200000 in
set_option maxHeartbeats 8000000 in
theorem type_d (s : DSch) (ps : List DStp) (own : Own) (hok : okS s) (hw : s.weight ≤ 1000000) (hl : ps.length ≤ 1000000) : DPure Try.prog 77 [encS s, .sl own (ps.map encP)] (tupS (typS ps s)) := by
  refine dpure_of_dwp mixed Try.func77 rfl (fun _ _ => by kernel_rfl) (rs := [.cell 4 47, .tmp 5]) rfl (by kernel_rfl) (tupS_closed _) (fun S hS => ?_)
  (simp (disch := first | decide | omega | (simp only [nx]; first | done | omega)) only [go_sem, Nat.reduceMul]; (repeat (with_reducible refine And.intro (by first | omega | assumption | rfl) ?_)))
  (refine dloop_var (fun t => List.contains [5, 7, 8, 9, 12, 13, 14, 15, 16, 17, 18, 19, 20, 21, 22, 23, 24, 25, 26, 27, 28, 29, 30, 31, 32, 33, 34, 35, 36, 37, 38, 39, 40, 41, 42, 43, 44, 45, 46, 47, 48, 49, 50, 51] t) (by kernel_rfl) ?_ (ps.length) (S.next) (fun i => .box 47 (encS (typA ps s i)).cells) ?_ (fun i f => i ≤ ps.length ∧ f 12 = .v (.int .i64 (i : Nat)) ∧ ((typS (ps.take i) s).isSome = true)) ?_ ?_; (exact (by (repeat' first | assumption | refine St.WF.leave ?_ _ | refine St.WF.add ?_ _ | refine St.WF.set ?_ ?_ _ | refine St.WF.grow ?_ _ _ _ | refine St.WF.keep ?_ ?_ | (first | omega | (simp only [RowOk.lo, nx]; first | done | omega))))); (exact (by (first | (simp (disch := first | decide | omega | (simp only [nx]; first | done | omega)) only [go_sem, Nat.reduceMul]; first | done | rfl) | rfl))); (exact ⟨(by omega), (by (first | (simp (disch := first | decide | omega | (simp only [nx]; first | done | omega)) only [go_sem, Nat.reduceMul]; first | done | rfl) | rfl)), (rfl)⟩); intro i g tn hn hT hg hI; obtain ⟨le, q12, hs⟩ := hI; have q2 := hg 2 rfl; have q4 := hg 4 rfl; have q10 := hg 10 rfl; have q11 := hg 11 rfl; simp (disch := first | decide | omega | (simp only [nx]; first | done | omega)) only [go_sem, Nat.reduceMul] at q2 q4 q10 q11; clear hg; have hn' := hn; try simp only [add_next, set_next, grow_next, leave_next, drop_next] at hn')
  obtain ⟨t, ht⟩ := Option.isSome_iff_exists.1 hs
  have hta : typA ps s i = t := by rw [typA, ht]; rfl
  have hnx0 := fun h => typA_succ (i := i) (ps := ps) (s := s) h hs
  obtain ⟨hto, htw⟩ := typS_fine _ ht hok hw
  rw [hta] at hnx0 hT
  rw [hta]
  by_cases hlt : i < ps.length
  · have b1 : decide ((i : Int) < (ps.length : Int)) = true := by simp; omega
    have w1 : IntKind.i64.wrap ((i : Int) + 1) = ((i + 1 : Nat) : Int) := IntWalk.i64_in _ ⟨by omega, by omega⟩
    have hnx := hnx0 hlt
    have hts := (okS_eq t).1 hto
    by_cases h0 : ps[i].1 = []
    · have b2 : (!(ps[i].1 == [])) = false := by simp [h0]
      by_cases h6 : t.kind = 6
      · have b3 : (t.kind == 6) = true := by simp [h6]
        by_cases hz : ps[i].2 = 0
        · have b4 : ((ps[i].2 : Int) != 0) = false := by simp [hz]
          (simp (disch := first | decide | omega | (simp only [nx]; first | done | omega)) only [go_sem, Nat.reduceMul, q10, q11, q12, q2, q4, b1, b2, b3, b4]; (repeat (with_reducible refine And.intro (by first | omega | assumption | rfl) ?_)))
          have hn : typS ps s = none := typS_none (i := i + 1) (by rw [hnx, stepT, if_pos h0, if_neg (by omega)])
          refine ⟨?_, (by (repeat' first | assumption | exact St.Sub.refl _ | exact RowOk.sub (by assumption) (by assumption) | refine St.Sub.trans ?_ (RowOk.sub (by assumption) (by assumption)) | refine St.Sub.add ?_ ?_ _ | refine St.Sub.set ?_ ?_ ?_ _ | refine St.Sub.keep ?_ ?_ | refine St.WF.leave ?_ _ | refine St.WF.add ?_ _ | refine St.WF.set ?_ ?_ _ | refine St.WF.grow ?_ _ _ _ | refine St.WF.keep ?_ ?_ | (first | omega | (simp only [RowOk.lo, nx]; first | done | omega))))⟩
          rw [hn]; rfl
        · have b4 : ((ps[i].2 : Int) != 0) = true := by simp; omega
          by_cases hp : 0 < t.parts.length
          · have b5 : decide ((0 : Int) < (t.parts.length : Int)) = true := by simp; omega
            (simp (disch := first | decide | omega | (simp only [nx]; first | done | omega)) only [go_sem, Nat.reduceMul, q10, q11, q12, q2, q4, b1, b2, b3, b4, b5, w1]; (repeat (with_reducible refine And.intro (by first | omega | assumption | rfl) ?_)))
            have hs1 : typS (ps.take (i + 1)) s = some t.parts[0] := by rw [hnx, stepT, if_pos h0, if_pos ⟨h6, hz, hp⟩, getD_at hp]
            have hta1 : typA ps s (i + 1) = t.parts[0] := by rw [typA, hs1]; rfl
            (refine ⟨by omega, St.Sub.upd hn (by simp only [hta1]) (by (repeat' first | assumption | exact St.Sub.refl _ | exact RowOk.sub (by assumption) (by assumption) | refine St.Sub.trans ?_ (RowOk.sub (by assumption) (by assumption)) | refine St.Sub.add ?_ ?_ _ | refine St.Sub.set ?_ ?_ ?_ _ | refine St.Sub.keep ?_ ?_ | refine St.WF.leave ?_ _ | refine St.WF.add ?_ _ | refine St.WF.set ?_ ?_ _ | refine St.WF.grow ?_ _ _ _ | refine St.WF.keep ?_ ?_ | (first | omega | (simp only [RowOk.lo, nx]; first | done | omega)))), ?_⟩; refine ⟨by omega, ?_, ?_⟩; all_goals (try (first | (simp (disch := first | decide | omega | (simp only [nx]; first | done | omega)) only [go_sem, Nat.reduceMul, w1]; first | done | rfl) | rfl)))
            rw [hs1]; rfl
          · have b5 : decide ((0 : Int) < (t.parts.length : Int)) = false := decide_eq_false (by omega)
            (simp (disch := first | decide | omega | (simp only [nx]; first | done | omega)) only [go_sem, Nat.reduceMul, q10, q11, q12, q2, q4, b1, b2, b3, b4, b5]; (repeat (with_reducible refine And.intro (by first | omega | assumption | rfl) ?_)))
            have hn : typS ps s = none := typS_none (i := i + 1) (by rw [hnx, stepT, if_pos h0, if_neg (by omega)])
            refine ⟨?_, (by (repeat' first | assumption | exact St.Sub.refl _ | exact RowOk.sub (by assumption) (by assumption) | refine St.Sub.trans ?_ (RowOk.sub (by assumption) (by assumption)) | refine St.Sub.add ?_ ?_ _ | refine St.Sub.set ?_ ?_ ?_ _ | refine St.Sub.keep ?_ ?_ | refine St.WF.leave ?_ _ | refine St.WF.add ?_ _ | refine St.WF.set ?_ ?_ _ | refine St.WF.grow ?_ _ _ _ | refine St.WF.keep ?_ ?_ | (first | omega | (simp only [RowOk.lo, nx]; first | done | omega))))⟩
            rw [hn]; rfl
      · have b3 : (t.kind == 6) = false := by simp [h6]
        (simp (disch := first | decide | omega | (simp only [nx]; first | done | omega)) only [go_sem, Nat.reduceMul, q10, q11, q12, q2, q4, b1, b2, b3]; (repeat (with_reducible refine And.intro (by first | omega | assumption | rfl) ?_)))
        have hn : typS ps s = none := typS_none (i := i + 1) (by rw [hnx, stepT, if_pos h0, if_neg (by omega)])
        refine ⟨?_, (by (repeat' first | assumption | exact St.Sub.refl _ | exact RowOk.sub (by assumption) (by assumption) | refine St.Sub.trans ?_ (RowOk.sub (by assumption) (by assumption)) | refine St.Sub.add ?_ ?_ _ | refine St.Sub.set ?_ ?_ ?_ _ | refine St.Sub.keep ?_ ?_ | refine St.WF.leave ?_ _ | refine St.WF.add ?_ _ | refine St.WF.set ?_ ?_ _ | refine St.WF.grow ?_ _ _ _ | refine St.WF.keep ?_ ?_ | (first | omega | (simp only [RowOk.lo, nx]; first | done | omega))))⟩
        rw [hn]; rfl
    · have b2 : (!(ps[i].1 == [])) = true := by simp [h0]
      (simp (disch := first | decide | omega | (simp only [nx]; first | done | omega)) only [go_sem, Nat.reduceMul, q10, q11, q12, q2, q4, b1, b2]; (repeat (with_reducible refine And.intro (by first | omega | assumption | rfl) ?_)))
      refine DCalls.of_pure (fieldS_d t ps[i].1 hto htw) ?_
      have hst : stepT t ps[i] = fieldS t ps[i].1 := by rw [stepT, if_neg h0]
      cases hf : fieldS t ps[i].1 with
      | none =>
        have hn : typS ps s = none := typS_none (i := i + 1) (by rw [hnx, hst, hf])
        (simp (disch := first | decide | omega | (simp only [nx]; first | done | omega)) only [go_sem, Nat.reduceMul, tupS, hf, Option.isSome_none, q4]; (repeat (with_reducible refine And.intro (by first | omega | assumption | rfl) ?_)))
        refine ⟨?_, (by (repeat' first | assumption | exact St.Sub.refl _ | exact RowOk.sub (by assumption) (by assumption) | refine St.Sub.trans ?_ (RowOk.sub (by assumption) (by assumption)) | refine St.Sub.add ?_ ?_ _ | refine St.Sub.set ?_ ?_ ?_ _ | refine St.Sub.keep ?_ ?_ | refine St.WF.leave ?_ _ | refine St.WF.add ?_ _ | refine St.WF.set ?_ ?_ _ | refine St.WF.grow ?_ _ _ _ | refine St.WF.keep ?_ ?_ | (first | omega | (simp only [RowOk.lo, nx]; first | done | omega))))⟩
        rw [hn]; rfl
      | some u =>
        have hs1 : typS (ps.take (i + 1)) s = some u := by rw [hnx, hst, hf]
        have hta1 : typA ps s (i + 1) = u := by rw [typA, hs1]; rfl
        (simp (disch := first | decide | omega | (simp only [nx]; first | done | omega)) only [go_sem, Nat.reduceMul, tupS, hf, Option.isSome_some, Option.getD_some, q12, q2, q4, w1]; (repeat (with_reducible refine And.intro (by first | omega | assumption | rfl) ?_)))
        (refine ⟨by omega, St.Sub.upd hn (by simp only [hta1]) (by (repeat' first | assumption | exact St.Sub.refl _ | exact RowOk.sub (by assumption) (by assumption) | refine St.Sub.trans ?_ (RowOk.sub (by assumption) (by assumption)) | refine St.Sub.add ?_ ?_ _ | refine St.Sub.set ?_ ?_ ?_ _ | refine St.Sub.keep ?_ ?_ | refine St.WF.leave ?_ _ | refine St.WF.add ?_ _ | refine St.WF.set ?_ ?_ _ | refine St.WF.grow ?_ _ _ _ | refine St.WF.keep ?_ ?_ | (first | omega | (simp only [RowOk.lo, nx]; first | done | omega)))), ?_⟩; refine ⟨by omega, ?_, ?_⟩; all_goals (try (first | (simp (disch := first | decide | omega | (simp only [nx]; first | done | omega)) only [go_sem, Nat.reduceMul, w1]; first | done | rfl) | rfl)))
        rw [hs1]; rfl
  · have b1 : decide ((i : Int) < (ps.length : Int)) = false := by simp; omega
    (simp (disch := first | decide | omega | (simp only [nx]; first | done | omega)) only [go_sem, Nat.reduceMul, q10, q11, q12, q2, q4, b1]; (repeat (with_reducible refine And.intro (by first | omega | assumption | rfl) ?_)))
    refine DCalls.of_pure (schCopy_d t hto htw) ?_
    (simp (disch := first | decide | omega | (simp only [nx]; first | done | omega)) only [go_sem, Nat.reduceMul, q4]; (repeat (with_reducible refine And.intro (by first | omega | assumption | rfl) ?_)))
    refine ⟨?_, (by (repeat' first | assumption | exact St.Sub.refl _ | exact RowOk.sub (by assumption) (by assumption) | refine St.Sub.trans ?_ (RowOk.sub (by assumption) (by assumption)) | refine St.Sub.add ?_ ?_ _ | refine St.Sub.set ?_ ?_ ?_ _ | refine St.Sub.keep ?_ ?_ | refine St.WF.leave ?_ _ | refine St.WF.add ?_ _ | refine St.WF.set ?_ ?_ _ | refine St.WF.grow ?_ _ _ _ | refine St.WF.keep ?_ ?_ | (first | omega | (simp only [RowOk.lo, nx]; first | done | omega))))⟩
    rw [frz_tupS, show ps.take i = ps from List.take_of_length_le (by omega)] at *
    rw [ht]; rfl
end Go.Proofs.Ytjjhjhjphhpeiaa

namespace Go.Proofs.Ytjjhjhjphhpeiaa
open Go.RowKit
/-- A value that is right but for its depth, and fits. -/
inductive GV : DVal → DSch → Prop
  | mk {v : DVal} {s : DSch} (h1 : hereV v = true) (h2 : headF v s = true) (h3 : ∀ i, i < v.parts.length → atF s i < s.parts.length) (h4 : ∀ i, (hi : i < v.parts.length) → GV v.parts[i] (s.parts.getD (atF s i) default)) : GV v s
theorem GV.here_ {v : DVal} {s : DSch} (h : GV v s) : hereV v = true := by cases h; assumption
theorem GV.head {v : DVal} {s : DSch} (h : GV v s) : headF v s = true := by cases h; assumption
theorem GV.at_ {v : DVal} {s : DSch} (h : GV v s) {i : Nat} (hi : i < v.parts.length) : atF s i < s.parts.length := by cases h; rename_i h3 h4; exact h3 i hi
theorem GV.part {v : DVal} {s : DSch} (h : GV v s) {i : Nat} (hi : i < v.parts.length) : GV v.parts[i] (s.parts.getD (atF s i) default) := by cases h; rename_i h3 h4; exact h4 i hi
theorem GV.depth : ∀ (k : Nat) {v : DVal} {s : DSch}, s.depth ≤ k → GV v s → v.depth ≤ s.depth
  | 0, v, s, hk, h => by have := s.depth_pos; omega
  | k + 1, v, s, hk, h => by
    rw [v.depth_eq]
    have hs := s.depth_pos
    have : DVal.depths v.parts ≤ s.depth - 1 := (depthsV_all _ _).2 fun p hp => by
      obtain ⟨i, hi, rfl⟩ := List.getElem_of_mem hp
      have h1 := h.at_ hi
      have h2 := h.part hi
      rw [getD_at h1] at h2
      have h3 := DSch.depth_part (List.getElem_mem h1)
      have := GV.depth k (by omega) h2
      omega
    omega
theorem GV.sound : ∀ (k : Nat) {v : DVal} {s : DSch}, GV v s → soundV k v = true ∧ fitsV k v s = true
  | 0, v, s, h => ⟨rfl, rfl⟩
  | k + 1, v, s, h => by
    rw [soundV, fitsV, h.here_, h.head, Bool.true_and, Bool.true_and]
    refine ⟨List.all_eq_true.2 fun p hp => ?_, List.all_eq_true.2 fun i hi => ?_⟩
    · obtain ⟨i, hi, rfl⟩ := List.getElem_of_mem hp
      exact (GV.sound k (h.part hi)).1
    · have hi := List.mem_range.1 hi
      rw [getD_at hi]
      exact (GV.sound k (h.part hi)).2
theorem GV.of : ∀ (k : Nat) {v : DVal} {s : DSch}, v.depth ≤ k → RS s → soundV k v = true → fitsV k v s = true → GV v s
  | 0, v, s, hk, _, _, _ => by have := v.depth_pos; omega
  | k + 1, v, s, hk, hs, h1, h2 => by
    have hrv : RV v := ⟨k + 1, hk, h1⟩
    rw [soundV, Bool.and_eq_true] at h1
    rw [fitsV, Bool.and_eq_true] at h2
    refine .mk h1.1 h2.1 (fun i hi => atF_lt hrv hs h2.1 hi) fun i hi => ?_
    have ha := atF_lt hrv hs h2.1 hi
    have h3 := List.all_eq_true.1 h2.2 i (List.mem_range.2 hi)
    have h4 := List.all_eq_true.1 h1.2 _ (List.getElem_mem hi)
    rw [getD_at hi] at h3
    have := DVal.depth_part (List.getElem_mem hi)
    refine GV.of k (by omega) ?_ h4 h3
    rw [getD_at ha]
    exact hs.part (List.getElem_mem ha)
theorem RS.of_top {s : DSch} (h : rightS 5 s = true) : RS s ∧ s.depth ≤ 5 := by
  have h1 := RS.of_right h
  refine ⟨⟨_, Nat.le_refl _, h1⟩, ?_⟩
  have := right_sound 5 s s.depth (Nat.le_refl _)
  rw [h] at this
  have := (Bool.and_eq_true _ _ ▸ this.symm).1
  simpa using this
theorem rightS_of {s : DSch} (h : RS s) (hd : s.depth ≤ 5) : rightS 5 s = true := by
  obtain ⟨m, h1, h2⟩ := h
  rw [right_sound 5 s m h1, h2, decide_eq_true hd]; rfl
theorem fitsTop_iff {v : DVal} {s : DSch} : fitsTop v s = true ↔ rightS 5 s = true ∧ GV v s := by
  constructor
  · intro h
    rw [fitsTop, Bool.and_eq_true, Bool.and_eq_true] at h
    obtain ⟨h1, h2, h3⟩ := h
    have := right_soundV 5 v v.depth (Nat.le_refl _)
    rw [h1] at this
    exact ⟨h2, GV.of v.depth (Nat.le_refl _) (RS.of_top h2).1 (Bool.and_eq_true _ _ ▸ this.symm).2 h3⟩
  · rintro ⟨h1, h2⟩
    obtain ⟨_, hd⟩ := RS.of_top h1
    have hv := GV.depth s.depth (Nat.le_refl _) h2
    have h3 := right_soundV 5 v v.depth (Nat.le_refl _)
    rw [(h2.sound v.depth).1, decide_eq_true (by omega : v.depth ≤ 5)] at h3
    rw [fitsTop, h3, h1, (h2.sound v.depth).2]; rfl
theorem GV.rv {v : DVal} {s : DSch} (h : GV v s) : RV v := ⟨v.depth, Nat.le_refl _, (h.sound v.depth).1⟩
theorem GV.kind {v : DVal} {s : DSch} (h : GV v s) : v.kind = s.kind := by
  have := h.head
  rw [headF, Bool.and_eq_true, decide_eq_true_eq] at this
  exact this.1
/-- Another part in the place of a part. -/
theorem GV.set {v : DVal} {s : DSch} (h : GV v s) {i : Nat} (hi : i < v.parts.length) {y : DVal} (hy : GV y (s.parts.getD (atF s i) default)) : GV (v.withParts (v.parts.set i y)) s := by
  have hl : (v.withParts (v.parts.set i y)).parts.length = v.parts.length := List.length_set
  refine .mk ?_ ?_ (fun j hj => h.at_ (by omega)) fun j hj => ?_
  · have := h.here_
    unfold hereV at this ⊢
    rw [hl]
    exact this
  · exact h.head
  · have hj' : j < (v.parts.set i y).length := hj
    show GV ((v.parts.set i y)[j]'hj') _
    rw [List.getElem_set]
    split
    · rename_i e; subst e; exact hy
    · exact h.part (by omega)
/-- The part that a step leads to fits the type that it leads to. -/
theorem GV.step {v : DVal} {s t : DSch} (h : GV v s) (hs : RS s) {p : DStp} (hp : inP v p) (ht : stepT s p = some t) : ∃ hi : plN v p < v.parts.length, s.parts.getD (atF s (plN v p)) default = t ∧ GV v.parts[plN v p] t := by
  have hi : plN v p < v.parts.length := by have := hp.1; have := hp.2; unfold plN; omega
  have hk := h.kind
  have key : s.parts.getD (atF s (plN v p)) default = t := by
    unfold stepT at ht
    have hpl := hp.1
    unfold placeOf at hpl
    by_cases h0 : p.1 = []
    · rw [if_pos h0] at ht hpl
      split at ht
      · rename_i hc
        injection ht with ht
        rw [atF, if_pos hc.1]
        exact ht
      · cases ht
    · rw [if_neg h0] at ht hpl
      unfold fieldS at ht
      split at ht
      · rename_i hc
        injection ht with ht
        have h5 : s.kind = 5 := by
          have := hc.1
          simp only [wholeS, Bool.and_eq_true, decide_eq_true_eq] at this
          exact this.1
        have hn : v.names = s.words := by
          have := h.head
          rw [headF, Bool.and_eq_true, Bool.and_eq_true] at this
          have h2 := this.2.2
          rw [decide_eq_true (by omega : v.kind = 5)] at h2
          simpa using h2
        have hw : wholeB v = true ∧ p.1 ∈ v.names := by
          refine ⟨?_, by rw [hn]; exact hc.2⟩
          have := h.rv.here
          simp only [wholeB, Bool.and_eq_true, decide_eq_true_eq]
          omega
        have hpn : plN v p = ixN s.words p.1 := by
          unfold plN placeOf
          rw [if_neg h0, if_pos hw, hn]
          simp
        rw [atF, if_neg (by omega), hpn]
        exact ht
      · cases ht
  exact ⟨hi, key, key ▸ h.part hi⟩
theorem RS.step {s t : DSch} (h : RS s) {p : DStp} (ht : stepT s p = some t) : RS t := h.part (stepT_mem ht)
theorem GV.get : ∀ (ps : List DStp) {v x : DVal} {s t : DSch}, GV v s → RS s → typS ps s = some t → getV ps v = some x → GV x t ∧ RS t ∧ t.depth + ps.length ≤ s.depth
  | [], v, x, s, t, h, hs, ht, hx => by
    injection ht with ht
    injection hx with hx
    subst ht hx
    exact ⟨h, hs, by simp⟩
  | p :: ps, v, x, s, t, h, hs, ht, hx => by
    rw [typS_cons] at ht
    cases hq : stepT s p with
    | none => rw [hq] at ht; cases ht
    | some u =>
      rw [hq] at ht
      rw [getV_cons] at hx
      split at hx
      · rename_i hin
        obtain ⟨hi, _, hg⟩ := h.step hs hin hq
        rw [getD_at hi] at hx
        have hd := DSch.depth_part (stepT_mem hq)
        obtain ⟨g1, g2, g3⟩ := GV.get ps hg (hs.step hq) ht hx
        exact ⟨g1, g2, by simp only [List.length_cons]; omega⟩
      · cases hx
theorem GV.put : ∀ (ps : List DStp) {v x y : DVal} {s t : DSch}, GV v s → RS s → typS ps s = some t → getV ps v = some x → GV y t → GV (chV (fun _ => y) ps v) s
  | [], v, x, y, s, t, h, hs, ht, hx, hy => by injection ht with ht; subst ht; exact hy
  | p :: ps, v, x, y, s, t, h, hs, ht, hx, hy => by
    rw [typS_cons] at ht
    cases hq : stepT s p with
    | none => rw [hq] at ht; cases ht
    | some u =>
      rw [hq] at ht
      rw [getV_cons] at hx
      split at hx
      · rename_i hin
        obtain ⟨hi, hu, hg⟩ := h.step hs hin hq
        rw [getD_at hi] at hx
        rw [chV, if_pos hin, getD_at hi]
        refine h.set hi ?_
        rw [hu]
        exact GV.put ps hg (hs.step hq) ht hx hy
      · cases hx
/-- A value that fits has something in each place that has a type, but for elements that aren't there. -/
theorem idOk_iff (l : List Nat) : (List.range l.length).all (idOk l) = true ↔ l.Nodup ∧ 0 ∉ l := by
  rw [List.all_eq_true]
  constructor
  · intro h
    have h' := fun i (hi : i < l.length) => h i (List.mem_range.2 hi)
    simp only [idOk, Bool.and_eq_true, Bool.not_eq_true', decide_eq_false_iff_not] at h'
    refine ⟨List.pairwise_iff_getElem.2 fun i j hi hj hij e => ?_, fun h0 => ?_⟩
    · have := (h' j hj).2
      rw [getD_at hj, ← e, List.mem_take_iff_getElem] at this
      exact this ⟨i, by omega, rfl⟩
    · obtain ⟨i, hi, e⟩ := List.getElem_of_mem h0
      have := (h' i hi).1
      rw [getD_at hi, e] at this
      simp at this
  · rintro ⟨h1, h2⟩ i hi
    have hi := List.mem_range.1 hi
    simp only [idOk, Bool.and_eq_true, Bool.not_eq_true', decide_eq_false_iff_not]
    rw [getD_at hi]
    refine ⟨?_, fun hm => ?_⟩
    · have : l[i] ≠ 0 := fun e => h2 (e ▸ List.getElem_mem hi)
      simpa using this
    · rw [List.mem_take_iff_getElem] at hm
      obtain ⟨j, hj, e⟩ := hm
      exact List.pairwise_iff_getElem.1 h1 j i (by omega) hi (by omega) e
end Go.Proofs.Ytjjhjhjphhpeiaa

namespace Go.Proofs.Ytjjhjhjphhpeiaa
open Go.RowKit
/-- What a list that fits is. -/
structure GList (v : DVal) (t : DSch) : Prop where
  kind : v.kind = 6
  names : v.names = []
  nodup : v.ids.Nodup
  zero : 0 ∉ v.ids
  most : v.ids.length ≤ 12
  len : v.parts.length = v.ids.length
  parts : ∀ p ∈ v.parts, GV p (t.parts.getD 0 default)
theorem here_parts {v : DVal} (h : hereV v = true) : ¬ bad1 v.kind v.n v.s.length v.names.length v.ids.length ∧ ¬ bad2 v.kind v.n v.s.length v.names.length v.ids.length v.parts.length (nameB v.s) ∧ (List.range v.names.length).all (riseOk v.names) = true ∧ (List.range v.ids.length).all (idOk v.ids) = true := by
  rw [hereV, Bool.and_eq_true, Bool.and_eq_true, Bool.and_eq_true, Bool.not_eq_true', Bool.not_eq_true', decide_eq_false_iff_not, decide_eq_false_iff_not] at h
  exact ⟨h.1.1, h.1.2, h.2.1, h.2.2⟩
theorem here_of {v : DVal} (h : ¬ bad1 v.kind v.n v.s.length v.names.length v.ids.length ∧ ¬ bad2 v.kind v.n v.s.length v.names.length v.ids.length v.parts.length (nameB v.s) ∧ (List.range v.names.length).all (riseOk v.names) = true ∧ (List.range v.ids.length).all (idOk v.ids) = true) : hereV v = true := by
  rw [hereV, Bool.and_eq_true, Bool.and_eq_true, Bool.and_eq_true, Bool.not_eq_true', Bool.not_eq_true', decide_eq_false_iff_not, decide_eq_false_iff_not]
  exact ⟨⟨h.1, h.2.1⟩, h.2.2.1, h.2.2.2⟩
theorem GV.list {v : DVal} {t : DSch} (h : GV v t) (h6 : t.kind = 6) : GList v t := by
  obtain ⟨b1, b2, b3, b4⟩ := here_parts h.here_
  have hk : v.kind = 6 := h.kind.trans h6
  obtain ⟨n1, n2⟩ := (idOk_iff _).1 b4
  unfold bad1 at b1
  unfold bad2 at b2
  refine ⟨hk, List.eq_nil_of_length_eq_zero (by omega), n1, n2, by omega, by omega, fun p hp => ?_⟩
  obtain ⟨i, hi, rfl⟩ := List.getElem_of_mem hp
  have := h.part hi
  rwa [atF, if_pos h6] at this
theorem GV.ofList {v : DVal} {t : DSch} (h : GV v t) (ht : RS t) (h6 : t.kind = 6) {is : List Nat} {ps : List DVal} (hn : is.Nodup) (h0 : 0 ∉ is) (h12 : is.length ≤ 12) (hl : ps.length = is.length) (hp : ∀ p ∈ ps, GV p (t.parts.getD 0 default)) : GV (v.ofList is ps) t := by
  obtain ⟨b1, b2, b3, b4⟩ := here_parts h.here_
  have hk : v.kind = 6 := h.kind.trans h6
  have hnn := (h.list h6).names
  have h1 := ht.here.2 h6
  refine .mk (here_of ⟨?_, ?_, b3, (idOk_iff _).2 ⟨hn, h0⟩⟩) h.head (fun i hi => by rw [atF, if_pos h6]; omega) fun i hi => ?_
  · show ¬ bad1 v.kind v.n v.s.length v.names.length is.length
    unfold bad1 at b1 ⊢
    omega
  · show ¬ bad2 v.kind v.n v.s.length v.names.length is.length ps.length (nameB v.s)
    unfold bad2 at b2 ⊢
    rw [hnn] at b2 ⊢
    simp only [List.length_nil] at b2 ⊢
    omega
  · rw [atF, if_pos h6]
    exact hp _ (List.getElem_mem hi)
theorem perm_ins {α : Type} (l : List α) (x : α) (k : Nat) : (l.take k ++ [x] ++ l.drop k).Perm (x :: l) := by
  have h := List.perm_middle (a := x) (l₁ := l.take k) (l₂ := l.drop k)
  rw [List.take_append_drop] at h
  simpa using h
theorem sub_del {α : Type} (l : List α) (k : Nat) : (l.take k ++ l.drop (k + 1)).Sublist l := by
  rw [← List.eraseIdx_eq_take_drop_succ]
  exact List.eraseIdx_sublist l k
theorem notMem_del {l : List Nat} (h : l.Nodup) {k : Nat} (hk : k < l.length) : l[k] ∉ l.take k ++ l.drop (k + 1) := by
  have e : l = l.take k ++ l[k] :: l.drop (k + 1) := by rw [← List.drop_eq_getElem_cons hk, List.take_append_drop]
  have hp := List.perm_middle (a := l[k]) (l₁ := l.take k) (l₂ := l.drop (k + 1))
  rw [← e] at hp
  exact (List.nodup_cons.1 (hp.nodup_iff.1 h)).1
theorem GV.pl {v x : DVal} {t : DSch} (h : GV v t) (ht : RS t) (h6 : t.kind = 6) {id after : Nat} (hid : id ∉ v.ids) (h0 : id ≠ 0) (h12 : v.ids.length < 12) (hx : GV x (t.parts.getD 0 default)) : GV (plV v id after x) t := by
  have hg := h.list h6
  have hp := perm_ins v.ids id (plK v after)
  refine h.ofList ht h6 (hp.nodup_iff.2 (List.nodup_cons.2 ⟨hid, hg.nodup⟩)) (fun hm => ?_) (by rw [ins_len _ _ (plK_le v after)]; omega) (by rw [ins_len _ _ (plK_le v after), ins_len _ _ (by rw [hg.len]; exact plK_le v after), hg.len]) fun p hpm => ?_
  · rcases List.mem_cons.1 (hp.mem_iff.1 hm) with e | e
    · exact h0 e.symm
    · exact hg.zero e
  · rcases List.mem_cons.1 ((perm_ins v.parts x (plK v after)).mem_iff.1 hpm) with e | e
    · rw [e]; exact hx
    · exact hg.parts p e
theorem GV.tk {v : DVal} {t : DSch} (h : GV v t) (ht : RS t) (h6 : t.kind = 6) {k : Nat} (hk : k < v.ids.length) : GV (tkV v k) t := by
  have hg := h.list h6
  have hs := sub_del v.ids k
  refine h.ofList ht h6 (hs.nodup hg.nodup) (fun hm => hg.zero (hs.subset hm)) (by have := hs.length_le; have := hg.most; omega) (by rw [del_len _ hk, del_len _ (by rw [hg.len]; exact hk), hg.len]) fun p hpm => hg.parts p ((sub_del v.parts k).subset hpm)
/-- What an operation makes of a list. -/
theorem GV.ls {o : DOp} {v : DVal} {t : DSch} (h : GV v t) (ht : RS t) (h6 : t.kind = 6) (hi : o.kind = 2 → o.id ≠ 0 ∧ GV o.val (t.parts.getD 0 default)) : GV (lsV o v) t := by
  have hg := h.list h6
  unfold lsV
  split
  · rename_i k2
    split
    · rename_i hc
      exact h.pl ht h6 hc.1 (hi k2).1 hc.2 (hi k2).2
    · exact h
  · split
    · exact h
    · rename_i hm
      have hm : o.id ∈ v.ids := Classical.not_not.1 hm
      have hk := ix_lt hm
      have hix : v.ids[ixN v.ids o.id] = o.id := by
        have := List.getElem_idxOf (x := o.id) (xs := v.ids) hk
        exact this
      split
      · have hpl : ixN v.ids o.id < v.parts.length := by rw [hg.len]; exact hk
        have hl := del_len v.ids hk
        have hmo := hg.most
        refine (h.tk ht h6 hk).pl ht h6 ?_ (fun e => hg.zero (e ▸ hm)) ?_ ?_
        · have := notMem_del hg.nodup hk
          rw [hix] at this
          exact this
        · have hl' : (tkV v (ixN v.ids o.id)).ids.length = v.ids.length - 1 := hl
          rw [hl']; omega
        · rw [show elK o v = ixN v.ids o.id from rfl, getD_at hpl]
          exact hg.parts _ (List.getElem_mem hpl)
      · exact h.tk ht h6 hk
end Go.Proofs.Ytjjhjhjphhpeiaa

namespace Go.Proofs.Ytjjhjhjphhpeiaa
open Go.RowKit
set_option linter.unusedSimpArgs false
set_option linter.unusedVariables false
/-- What is asked of an operation that came in. -/
structure OkO (o : DOp) : Prop where
  path : o.path.length ≤ 1000
  names : ∀ p ∈ o.path, p.1.length ≤ maxLen
  val : okV o.val
  wt : o.val.weight ≤ 1000
  kind : I64 o.kind
  id : U64 (o.id : Int)
  after : U64 (o.after : Int)
noncomputable def rightO (o : DOp) : Bool := rightP o.path &&
  (if o.kind = 1 then decide (o.id = 0) && decide (o.after = 0) && rightV 5 o.val
   else if o.kind = 2 then decide (o.id ≠ 0) && decide (o.id ≠ o.after) && rightV 5 o.val
   else if o.kind = 3 then decide (o.id ≠ 0) && decide (o.after = 0) && eqB o.val zeroV
   else if o.kind = 4 then decide (o.id ≠ 0) && decide (o.id ≠ o.after) && eqB o.val zeroV
   else false)
theorem zero_wt : zeroV.weight = 1 := by simp [zeroV, DVal.weight_eq, DVal.names, DVal.ids, DVal.parts, DVal.weights]
theorem u64_dec (a b : Nat) : ((a : Int) == (b : Int)) = decide (a = b) := by rw [Bool.eq_iff_iff]; simp; omega
theorem u64_dne (a b : Nat) : ((a : Int) != (b : Int)) = decide (a ≠ b) := by
  have : ((a : Int) != (b : Int)) = !((a : Int) == (b : Int)) := rfl
  rw [this, u64_dec]; simp
theorem u64_d0 (a : Nat) : ((a : Int) == 0) = decide (a = 0) := u64_dec a 0
theorem u64_n0 (a : Nat) : ((a : Int) != 0) = decide (a ≠ 0) := u64_dne a 0
set_option maxRecDepth 200000 in
set_option maxHeartbeats 8000000 in
theorem right_o (o : DOp) (h : OkO o) : DPure Try.prog 76 [encO o] (.v (.bool (rightO o))) := by
  have hwt := h.wt
  have hpl := h.path
  refine dpure_of_dwp mixed Try.func76 rfl (fun _ _ => by kernel_rfl) (rs := [.tmp 2]) rfl (by kernel_rfl) trivial (fun S hS => ?_)
  (simp (disch := first | decide | omega | (simp only [nx]; first | done | omega)) only [go_sem, Nat.reduceMul, opCs]; (repeat (with_reducible refine And.intro (by first | omega | assumption | rfl) ?_)))
  refine DCalls.of_pure (pathRight_d .no o.path (by omega) h.names) ?_
  cases hp : rightP o.path with
  | false =>
    (simp (disch := first | decide | omega | (simp only [nx]; first | done | omega)) only [go_sem, Nat.reduceMul]; (repeat (with_reducible refine And.intro (by first | omega | assumption | rfl) ?_)))
    refine ⟨?_, (by (repeat' first | assumption | exact St.Sub.refl _ | exact RowOk.sub (by assumption) (by assumption) | refine St.Sub.trans ?_ (RowOk.sub (by assumption) (by assumption)) | refine St.Sub.add ?_ ?_ _ | refine St.Sub.set ?_ ?_ ?_ _ | refine St.Sub.keep ?_ ?_ | refine St.WF.leave ?_ _ | refine St.WF.add ?_ _ | refine St.WF.set ?_ ?_ _ | refine St.WF.grow ?_ _ _ _ | refine St.WF.keep ?_ ?_ | (first | omega | (simp only [RowOk.lo, nx]; first | done | omega))))⟩
    rw [rightO, hp]; rfl
  | true =>
  (simp (disch := first | decide | omega | (simp only [nx]; first | done | omega)) only [go_sem, Nat.reduceMul]; (repeat (with_reducible refine And.intro (by first | omega | assumption | rfl) ?_)))
  have hsm := valSame_d o.val.depth o.val zeroV (Nat.le_refl _) (by omega) (by rw [zero_wt]; omega)
  refine DCalls.of_pure (DPure.weak hsm (by simp only [frzL, frz_encV]; rfl)) ?_
  have hv := valRight_d o.val h.val
  by_cases k1 : o.kind = 1
  · have c1 : (o.kind == 1) = true := by simp [k1]
    by_cases i0 : o.id = 0
    · by_cases a0 : o.after = 0
      · have d1 := decide_eq_true i0
        have d2 := decide_eq_true a0
        (simp (disch := first | decide | omega | (simp only [nx]; first | done | omega)) only [go_sem, Nat.reduceMul, c1, u64_d0, d1, d2]; (repeat (with_reducible refine And.intro (by first | omega | assumption | rfl) ?_)))
        refine DCalls.of_pure hv ?_
        (simp (disch := first | decide | omega | (simp only [nx]; first | done | omega)) only [go_sem, Nat.reduceMul]; (repeat (with_reducible refine And.intro (by first | omega | assumption | rfl) ?_)))
        refine ⟨?_, (by (repeat' first | assumption | exact St.Sub.refl _ | exact RowOk.sub (by assumption) (by assumption) | refine St.Sub.trans ?_ (RowOk.sub (by assumption) (by assumption)) | refine St.Sub.add ?_ ?_ _ | refine St.Sub.set ?_ ?_ ?_ _ | refine St.Sub.keep ?_ ?_ | refine St.WF.leave ?_ _ | refine St.WF.add ?_ _ | refine St.WF.set ?_ ?_ _ | refine St.WF.grow ?_ _ _ _ | refine St.WF.keep ?_ ?_ | (first | omega | (simp only [RowOk.lo, nx]; first | done | omega))))⟩
        rw [rightO, hp, if_pos k1, d1, d2]; rfl
      · have d1 := decide_eq_true i0
        have d2 := decide_eq_false a0
        (simp (disch := first | decide | omega | (simp only [nx]; first | done | omega)) only [go_sem, Nat.reduceMul, c1, u64_d0, d1, d2]; (repeat (with_reducible refine And.intro (by first | omega | assumption | rfl) ?_)))
        refine ⟨?_, (by (repeat' first | assumption | exact St.Sub.refl _ | exact RowOk.sub (by assumption) (by assumption) | refine St.Sub.trans ?_ (RowOk.sub (by assumption) (by assumption)) | refine St.Sub.add ?_ ?_ _ | refine St.Sub.set ?_ ?_ ?_ _ | refine St.Sub.keep ?_ ?_ | refine St.WF.leave ?_ _ | refine St.WF.add ?_ _ | refine St.WF.set ?_ ?_ _ | refine St.WF.grow ?_ _ _ _ | refine St.WF.keep ?_ ?_ | (first | omega | (simp only [RowOk.lo, nx]; first | done | omega))))⟩
        rw [rightO, hp, if_pos k1, d1, d2]; rfl
    · have d1 := decide_eq_false i0
      (simp (disch := first | decide | omega | (simp only [nx]; first | done | omega)) only [go_sem, Nat.reduceMul, c1, u64_d0, d1]; (repeat (with_reducible refine And.intro (by first | omega | assumption | rfl) ?_)))
      refine ⟨?_, (by (repeat' first | assumption | exact St.Sub.refl _ | exact RowOk.sub (by assumption) (by assumption) | refine St.Sub.trans ?_ (RowOk.sub (by assumption) (by assumption)) | refine St.Sub.add ?_ ?_ _ | refine St.Sub.set ?_ ?_ ?_ _ | refine St.Sub.keep ?_ ?_ | refine St.WF.leave ?_ _ | refine St.WF.add ?_ _ | refine St.WF.set ?_ ?_ _ | refine St.WF.grow ?_ _ _ _ | refine St.WF.keep ?_ ?_ | (first | omega | (simp only [RowOk.lo, nx]; first | done | omega))))⟩
      rw [rightO, hp, if_pos k1, d1]; rfl
  have c1 : (o.kind == 1) = false := by simp [k1]
  by_cases k2 : o.kind = 2
  · have c2 : (o.kind == 2) = true := by simp [k2]
    by_cases i0 : o.id ≠ 0
    · by_cases a0 : o.id ≠ o.after
      · have d1 := decide_eq_true i0
        have d2 := decide_eq_true a0
        (simp (disch := first | decide | omega | (simp only [nx]; first | done | omega)) only [go_sem, Nat.reduceMul, c1, c2, u64_n0, u64_dne, d1, d2]; (repeat (with_reducible refine And.intro (by first | omega | assumption | rfl) ?_)))
        refine DCalls.of_pure hv ?_
        (simp (disch := first | decide | omega | (simp only [nx]; first | done | omega)) only [go_sem, Nat.reduceMul]; (repeat (with_reducible refine And.intro (by first | omega | assumption | rfl) ?_)))
        refine ⟨?_, (by (repeat' first | assumption | exact St.Sub.refl _ | exact RowOk.sub (by assumption) (by assumption) | refine St.Sub.trans ?_ (RowOk.sub (by assumption) (by assumption)) | refine St.Sub.add ?_ ?_ _ | refine St.Sub.set ?_ ?_ ?_ _ | refine St.Sub.keep ?_ ?_ | refine St.WF.leave ?_ _ | refine St.WF.add ?_ _ | refine St.WF.set ?_ ?_ _ | refine St.WF.grow ?_ _ _ _ | refine St.WF.keep ?_ ?_ | (first | omega | (simp only [RowOk.lo, nx]; first | done | omega))))⟩
        rw [rightO, hp, if_neg k1, if_pos k2, d1, d2]; rfl
      · have d1 := decide_eq_true i0
        have d2 := decide_eq_false a0
        (simp (disch := first | decide | omega | (simp only [nx]; first | done | omega)) only [go_sem, Nat.reduceMul, c1, c2, u64_n0, u64_dne, d1, d2]; (repeat (with_reducible refine And.intro (by first | omega | assumption | rfl) ?_)))
        refine ⟨?_, (by (repeat' first | assumption | exact St.Sub.refl _ | exact RowOk.sub (by assumption) (by assumption) | refine St.Sub.trans ?_ (RowOk.sub (by assumption) (by assumption)) | refine St.Sub.add ?_ ?_ _ | refine St.Sub.set ?_ ?_ ?_ _ | refine St.Sub.keep ?_ ?_ | refine St.WF.leave ?_ _ | refine St.WF.add ?_ _ | refine St.WF.set ?_ ?_ _ | refine St.WF.grow ?_ _ _ _ | refine St.WF.keep ?_ ?_ | (first | omega | (simp only [RowOk.lo, nx]; first | done | omega))))⟩
        rw [rightO, hp, if_neg k1, if_pos k2, d1, d2]; rfl
    · have d1 := decide_eq_false i0
      (simp (disch := first | decide | omega | (simp only [nx]; first | done | omega)) only [go_sem, Nat.reduceMul, c1, c2, u64_n0, u64_dne, d1]; (repeat (with_reducible refine And.intro (by first | omega | assumption | rfl) ?_)))
      refine ⟨?_, (by (repeat' first | assumption | exact St.Sub.refl _ | exact RowOk.sub (by assumption) (by assumption) | refine St.Sub.trans ?_ (RowOk.sub (by assumption) (by assumption)) | refine St.Sub.add ?_ ?_ _ | refine St.Sub.set ?_ ?_ ?_ _ | refine St.Sub.keep ?_ ?_ | refine St.WF.leave ?_ _ | refine St.WF.add ?_ _ | refine St.WF.set ?_ ?_ _ | refine St.WF.grow ?_ _ _ _ | refine St.WF.keep ?_ ?_ | (first | omega | (simp only [RowOk.lo, nx]; first | done | omega))))⟩
      rw [rightO, hp, if_neg k1, if_pos k2, d1]; rfl
  have c2 : (o.kind == 2) = false := by simp [k2]
  by_cases k3 : o.kind = 3
  · have c3 : (o.kind == 3) = true := by simp [k3]
    by_cases i0 : o.id ≠ 0
    · by_cases a0 : o.after = 0
      · have d1 := decide_eq_true i0
        have d2 := decide_eq_true a0
        (simp (disch := first | decide | omega | (simp only [nx]; first | done | omega)) only [go_sem, Nat.reduceMul, c1, c2, c3, u64_n0, u64_d0, d1, d2]; (repeat (with_reducible refine And.intro (by first | omega | assumption | rfl) ?_)))
        refine ⟨?_, (by (repeat' first | assumption | exact St.Sub.refl _ | exact RowOk.sub (by assumption) (by assumption) | refine St.Sub.trans ?_ (RowOk.sub (by assumption) (by assumption)) | refine St.Sub.add ?_ ?_ _ | refine St.Sub.set ?_ ?_ ?_ _ | refine St.Sub.keep ?_ ?_ | refine St.WF.leave ?_ _ | refine St.WF.add ?_ _ | refine St.WF.set ?_ ?_ _ | refine St.WF.grow ?_ _ _ _ | refine St.WF.keep ?_ ?_ | (first | omega | (simp only [RowOk.lo, nx]; first | done | omega))))⟩
        rw [rightO, hp, if_neg k1, if_neg k2, if_pos k3, d1, d2]; rfl
      · have d1 := decide_eq_true i0
        have d2 := decide_eq_false a0
        (simp (disch := first | decide | omega | (simp only [nx]; first | done | omega)) only [go_sem, Nat.reduceMul, c1, c2, c3, u64_n0, u64_d0, d1, d2]; (repeat (with_reducible refine And.intro (by first | omega | assumption | rfl) ?_)))
        refine ⟨?_, (by (repeat' first | assumption | exact St.Sub.refl _ | exact RowOk.sub (by assumption) (by assumption) | refine St.Sub.trans ?_ (RowOk.sub (by assumption) (by assumption)) | refine St.Sub.add ?_ ?_ _ | refine St.Sub.set ?_ ?_ ?_ _ | refine St.Sub.keep ?_ ?_ | refine St.WF.leave ?_ _ | refine St.WF.add ?_ _ | refine St.WF.set ?_ ?_ _ | refine St.WF.grow ?_ _ _ _ | refine St.WF.keep ?_ ?_ | (first | omega | (simp only [RowOk.lo, nx]; first | done | omega))))⟩
        rw [rightO, hp, if_neg k1, if_neg k2, if_pos k3, d1, d2]; rfl
    · have d1 := decide_eq_false i0
      (simp (disch := first | decide | omega | (simp only [nx]; first | done | omega)) only [go_sem, Nat.reduceMul, c1, c2, c3, u64_n0, u64_d0, d1]; (repeat (with_reducible refine And.intro (by first | omega | assumption | rfl) ?_)))
      refine ⟨?_, (by (repeat' first | assumption | exact St.Sub.refl _ | exact RowOk.sub (by assumption) (by assumption) | refine St.Sub.trans ?_ (RowOk.sub (by assumption) (by assumption)) | refine St.Sub.add ?_ ?_ _ | refine St.Sub.set ?_ ?_ ?_ _ | refine St.Sub.keep ?_ ?_ | refine St.WF.leave ?_ _ | refine St.WF.add ?_ _ | refine St.WF.set ?_ ?_ _ | refine St.WF.grow ?_ _ _ _ | refine St.WF.keep ?_ ?_ | (first | omega | (simp only [RowOk.lo, nx]; first | done | omega))))⟩
      rw [rightO, hp, if_neg k1, if_neg k2, if_pos k3, d1]; rfl
  have c3 : (o.kind == 3) = false := by simp [k3]
  by_cases k4 : o.kind = 4
  · have c4 : (o.kind == 4) = true := by simp [k4]
    by_cases i0 : o.id ≠ 0
    · by_cases a0 : o.id ≠ o.after
      · have d1 := decide_eq_true i0
        have d2 := decide_eq_true a0
        (simp (disch := first | decide | omega | (simp only [nx]; first | done | omega)) only [go_sem, Nat.reduceMul, c1, c2, c3, c4, u64_n0, u64_dne, d1, d2]; (repeat (with_reducible refine And.intro (by first | omega | assumption | rfl) ?_)))
        refine ⟨?_, (by (repeat' first | assumption | exact St.Sub.refl _ | exact RowOk.sub (by assumption) (by assumption) | refine St.Sub.trans ?_ (RowOk.sub (by assumption) (by assumption)) | refine St.Sub.add ?_ ?_ _ | refine St.Sub.set ?_ ?_ ?_ _ | refine St.Sub.keep ?_ ?_ | refine St.WF.leave ?_ _ | refine St.WF.add ?_ _ | refine St.WF.set ?_ ?_ _ | refine St.WF.grow ?_ _ _ _ | refine St.WF.keep ?_ ?_ | (first | omega | (simp only [RowOk.lo, nx]; first | done | omega))))⟩
        rw [rightO, hp, if_neg k1, if_neg k2, if_neg k3, if_pos k4, d1, d2]; rfl
      · have d1 := decide_eq_true i0
        have d2 := decide_eq_false a0
        (simp (disch := first | decide | omega | (simp only [nx]; first | done | omega)) only [go_sem, Nat.reduceMul, c1, c2, c3, c4, u64_n0, u64_dne, d1, d2]; (repeat (with_reducible refine And.intro (by first | omega | assumption | rfl) ?_)))
        refine ⟨?_, (by (repeat' first | assumption | exact St.Sub.refl _ | exact RowOk.sub (by assumption) (by assumption) | refine St.Sub.trans ?_ (RowOk.sub (by assumption) (by assumption)) | refine St.Sub.add ?_ ?_ _ | refine St.Sub.set ?_ ?_ ?_ _ | refine St.Sub.keep ?_ ?_ | refine St.WF.leave ?_ _ | refine St.WF.add ?_ _ | refine St.WF.set ?_ ?_ _ | refine St.WF.grow ?_ _ _ _ | refine St.WF.keep ?_ ?_ | (first | omega | (simp only [RowOk.lo, nx]; first | done | omega))))⟩
        rw [rightO, hp, if_neg k1, if_neg k2, if_neg k3, if_pos k4, d1, d2]; rfl
    · have d1 := decide_eq_false i0
      (simp (disch := first | decide | omega | (simp only [nx]; first | done | omega)) only [go_sem, Nat.reduceMul, c1, c2, c3, c4, u64_n0, u64_dne, d1]; (repeat (with_reducible refine And.intro (by first | omega | assumption | rfl) ?_)))
      refine ⟨?_, (by (repeat' first | assumption | exact St.Sub.refl _ | exact RowOk.sub (by assumption) (by assumption) | refine St.Sub.trans ?_ (RowOk.sub (by assumption) (by assumption)) | refine St.Sub.add ?_ ?_ _ | refine St.Sub.set ?_ ?_ ?_ _ | refine St.Sub.keep ?_ ?_ | refine St.WF.leave ?_ _ | refine St.WF.add ?_ _ | refine St.WF.set ?_ ?_ _ | refine St.WF.grow ?_ _ _ _ | refine St.WF.keep ?_ ?_ | (first | omega | (simp only [RowOk.lo, nx]; first | done | omega))))⟩
      rw [rightO, hp, if_neg k1, if_neg k2, if_neg k3, if_pos k4, d1]; rfl
  have c4 : (o.kind == 4) = false := by simp [k4]
  (simp (disch := first | decide | omega | (simp only [nx]; first | done | omega)) only [go_sem, Nat.reduceMul, c1, c2, c3, c4]; (repeat (with_reducible refine And.intro (by first | omega | assumption | rfl) ?_)))
  refine ⟨?_, (by (repeat' first | assumption | exact St.Sub.refl _ | exact RowOk.sub (by assumption) (by assumption) | refine St.Sub.trans ?_ (RowOk.sub (by assumption) (by assumption)) | refine St.Sub.add ?_ ?_ _ | refine St.Sub.set ?_ ?_ ?_ _ | refine St.Sub.keep ?_ ?_ | refine St.WF.leave ?_ _ | refine St.WF.add ?_ _ | refine St.WF.set ?_ ?_ _ | refine St.WF.grow ?_ _ _ _ | refine St.WF.keep ?_ ?_ | (first | omega | (simp only [RowOk.lo, nx]; first | done | omega))))⟩
  rw [rightO, hp, if_neg k1, if_neg k2, if_neg k3, if_neg k4]; rfl
/-- Does an operation fit a type? -/
def fitO (o : DOp) (t : DSch) : Bool := if o.kind = 1 then fitsTop o.val t else if t.kind = 6 then (if o.kind = 2 then fitsTop o.val (t.parts.getD 0 default) else true) else false
/-- Why an operation can't be done: an error's number. -/
noncomputable def chkO (o : DOp) (s : DSch) : Nat := if rightO o = true ∧ rightS 5 s = true then (match typS o.path s with | some t => if fitO o t = true then 0 else 6 | none => 6) else 1
def errO (c : Nat) : D := if c = 0 then .v .nilIface else .ifc 84 (.v (.int .i64 (c : Int)))
theorem errO_closed (c : Nat) : (errO c).closed := by unfold errO; split <;> simp [D.closed, D.all]
set_option maxRecDepth 200000 in
set_option maxHeartbeats 8000000 in
theorem check_o (o : DOp) (s : DSch) (h : OkO o) (hs : okS s) (hsw : s.weight ≤ 1000) : DPure Try.prog 51 [encO o, encS s] (errO (chkO o s)) := by
  have hwt := h.wt
  have hpl := h.path
  have hdw := DVal.depth_weight o.val.depth o.val (Nat.le_refl _)
  refine dpure_of_dwp mixed Try.func51 rfl (fun _ _ => by kernel_rfl) (rs := [.tmp 4]) rfl (by kernel_rfl) (errO_closed _) (fun S hS => ?_)
  (simp (disch := first | decide | omega | (simp only [nx]; first | done | omega)) only [go_sem, Nat.reduceMul]; (repeat (with_reducible refine And.intro (by first | omega | assumption | rfl) ?_)))
  refine DCalls.of_pure (right_o o h) ?_
  cases hr : rightO o with
  | false =>
    (simp (disch := first | decide | omega | (simp only [nx]; first | done | omega)) only [go_sem, Nat.reduceMul]; (repeat (with_reducible refine And.intro (by first | omega | assumption | rfl) ?_)))
    refine ⟨?_, (by (repeat' first | assumption | exact St.Sub.refl _ | exact RowOk.sub (by assumption) (by assumption) | refine St.Sub.trans ?_ (RowOk.sub (by assumption) (by assumption)) | refine St.Sub.add ?_ ?_ _ | refine St.Sub.set ?_ ?_ ?_ _ | refine St.Sub.keep ?_ ?_ | refine St.WF.leave ?_ _ | refine St.WF.add ?_ _ | refine St.WF.set ?_ ?_ _ | refine St.WF.grow ?_ _ _ _ | refine St.WF.keep ?_ ?_ | (first | omega | (simp only [RowOk.lo, nx]; first | done | omega))))⟩
    rw [chkO, if_neg (by rw [hr]; simp)]; rfl
  | true =>
  (simp (disch := first | decide | omega | (simp only [nx]; first | done | omega)) only [go_sem, Nat.reduceMul]; (repeat (with_reducible refine And.intro (by first | omega | assumption | rfl) ?_)))
  refine DCalls.of_pure (schRight_d s hs) ?_
  cases hrs : rightS 5 s with
  | false =>
    (simp (disch := first | decide | omega | (simp only [nx]; first | done | omega)) only [go_sem, Nat.reduceMul]; (repeat (with_reducible refine And.intro (by first | omega | assumption | rfl) ?_)))
    refine ⟨?_, (by (repeat' first | assumption | exact St.Sub.refl _ | exact RowOk.sub (by assumption) (by assumption) | refine St.Sub.trans ?_ (RowOk.sub (by assumption) (by assumption)) | refine St.Sub.add ?_ ?_ _ | refine St.Sub.set ?_ ?_ ?_ _ | refine St.Sub.keep ?_ ?_ | refine St.WF.leave ?_ _ | refine St.WF.add ?_ _ | refine St.WF.set ?_ ?_ _ | refine St.WF.grow ?_ _ _ _ | refine St.WF.keep ?_ ?_ | (first | omega | (simp only [RowOk.lo, nx]; first | done | omega))))⟩
    rw [chkO, if_neg (by rw [hrs]; simp)]; rfl
  | true =>
  have hc : chkO o s = (match typS o.path s with | some t => if fitO o t = true then 0 else 6 | none => 6) := by rw [chkO, if_pos ⟨hr, hrs⟩]
  obtain ⟨hRS, hdep⟩ := RS.of_top hrs
  (simp (disch := first | decide | omega | (simp only [nx]; first | done | omega)) only [go_sem, Nat.reduceMul, opCs]; (repeat (with_reducible refine And.intro (by first | omega | assumption | rfl) ?_)))
  refine DCalls.of_pure (type_d s o.path .no hs (by omega) (by omega)) ?_
  cases ht : typS o.path s with
  | none =>
    (simp (disch := first | decide | omega | (simp only [nx]; first | done | omega)) only [go_sem, Nat.reduceMul, tupS, Option.getD_none, Option.isSome_none]; (repeat (with_reducible refine And.intro (by first | omega | assumption | rfl) ?_)))
    refine ⟨?_, (by (repeat' first | assumption | exact St.Sub.refl _ | exact RowOk.sub (by assumption) (by assumption) | refine St.Sub.trans ?_ (RowOk.sub (by assumption) (by assumption)) | refine St.Sub.add ?_ ?_ _ | refine St.Sub.set ?_ ?_ ?_ _ | refine St.Sub.keep ?_ ?_ | refine St.WF.leave ?_ _ | refine St.WF.add ?_ _ | refine St.WF.set ?_ ?_ _ | refine St.WF.grow ?_ _ _ _ | refine St.WF.keep ?_ ?_ | (first | omega | (simp only [RowOk.lo, nx]; first | done | omega))))⟩
    rw [hc, ht]; rfl
  | some t =>
  obtain ⟨hto, htw⟩ := typS_fine _ ht hs (by omega)
  rw [ht] at hc
  simp only at hc
  by_cases k1 : o.kind = 1
  · have c1 : (o.kind == 1) = true := by simp [k1]
    (simp (disch := first | decide | omega | (simp only [nx]; first | done | omega)) only [go_sem, Nat.reduceMul, tupS, Option.getD_some, Option.isSome_some, c1]; (repeat (with_reducible refine And.intro (by first | omega | assumption | rfl) ?_)))
    refine DCalls.of_pure (fitsTop_d o.val t h.val hto) ?_
    have hf : fitO o t = fitsTop o.val t := by rw [fitO, if_pos k1]
    cases hft : fitsTop o.val t with
    | true =>
      (simp (disch := first | decide | omega | (simp only [nx]; first | done | omega)) only [go_sem, Nat.reduceMul]; (repeat (with_reducible refine And.intro (by first | omega | assumption | rfl) ?_)))
      refine ⟨?_, (by (repeat' first | assumption | exact St.Sub.refl _ | exact RowOk.sub (by assumption) (by assumption) | refine St.Sub.trans ?_ (RowOk.sub (by assumption) (by assumption)) | refine St.Sub.add ?_ ?_ _ | refine St.Sub.set ?_ ?_ ?_ _ | refine St.Sub.keep ?_ ?_ | refine St.WF.leave ?_ _ | refine St.WF.add ?_ _ | refine St.WF.set ?_ ?_ _ | refine St.WF.grow ?_ _ _ _ | refine St.WF.keep ?_ ?_ | (first | omega | (simp only [RowOk.lo, nx]; first | done | omega))))⟩
      rw [hc, hf, hft]; rfl
    | false =>
      (simp (disch := first | decide | omega | (simp only [nx]; first | done | omega)) only [go_sem, Nat.reduceMul]; (repeat (with_reducible refine And.intro (by first | omega | assumption | rfl) ?_)))
      refine ⟨?_, (by (repeat' first | assumption | exact St.Sub.refl _ | exact RowOk.sub (by assumption) (by assumption) | refine St.Sub.trans ?_ (RowOk.sub (by assumption) (by assumption)) | refine St.Sub.add ?_ ?_ _ | refine St.Sub.set ?_ ?_ ?_ _ | refine St.Sub.keep ?_ ?_ | refine St.WF.leave ?_ _ | refine St.WF.add ?_ _ | refine St.WF.set ?_ ?_ _ | refine St.WF.grow ?_ _ _ _ | refine St.WF.keep ?_ ?_ | (first | omega | (simp only [RowOk.lo, nx]; first | done | omega))))⟩
      rw [hc, hf, hft]; rfl
  have c1 : (o.kind == 1) = false := by simp [k1]
  by_cases t6 : t.kind = 6
  · have c6 : (t.kind != 6) = false := by simp [t6]
    by_cases k2 : o.kind = 2
    · have c2 : (o.kind == 2) = true := by simp [k2]
      have hRt : RS t := by
        have : ∀ (ps : List DStp) (s t : DSch), RS s → typS ps s = some t → RS t := by
          intro ps
          induction ps with
          | nil => intro s t h1 h2; injection h2 with h2; subst h2; exact h1
          | cons p ps ih =>
            intro s t h1 h2
            rw [typS_cons] at h2
            cases hq : stepT s p with
            | none => rw [hq] at h2; cases h2
            | some u => rw [hq] at h2; exact ih u t (h1.step hq) h2
        exact this _ _ _ hRS ht
      have hp1 := hRt.here.2 t6
      have hp0 : 0 < t.parts.length := by omega
      have g0 := getD_map encS t.parts 0 hp0
      have hp0i : (0 : Int) < (t.parts.length : Int) := by omega
      (simp (disch := first | decide | omega | (simp only [nx]; first | done | omega)) only [go_sem, Nat.reduceMul, tupS, Option.getD_some, Option.isSome_some, c1, c2, c6]; (repeat (with_reducible refine And.intro (by first | omega | assumption | rfl) ?_)))
      refine ddraw_mk 8 (by kernel_rfl) ?_
      (simp (disch := first | decide | omega | (simp only [nx]; first | done | omega)) only [go_sem, Nat.reduceMul, opCs, g0, hp0i]; (repeat (with_reducible refine And.intro (by first | omega | assumption | rfl) ?_)))
      have hto0 : okS t.parts[0] := ((okS_eq t).1 hto).2.2.2.2 _ (List.getElem_mem hp0)
      refine dqgo_mk (fitsTop_d o.val t.parts[0] h.val hto0) ?_
      have hf : fitO o t = fitsTop o.val t.parts[0] := by rw [fitO, if_neg k1, if_pos t6, if_pos k2, getD_at hp0]
      cases hft : fitsTop o.val t.parts[0] with
      | true =>
        (simp (disch := first | decide | omega | (simp only [nx]; first | done | omega)) only [go_sem, Nat.reduceMul]; (repeat (with_reducible refine And.intro (by first | omega | assumption | rfl) ?_)))
        refine ⟨?_, (by (repeat' first | assumption | exact St.Sub.refl _ | exact RowOk.sub (by assumption) (by assumption) | refine St.Sub.trans ?_ (RowOk.sub (by assumption) (by assumption)) | refine St.Sub.add ?_ ?_ _ | refine St.Sub.set ?_ ?_ ?_ _ | refine St.Sub.keep ?_ ?_ | refine St.WF.leave ?_ _ | refine St.WF.add ?_ _ | refine St.WF.set ?_ ?_ _ | refine St.WF.grow ?_ _ _ _ | refine St.WF.keep ?_ ?_ | (first | omega | (simp only [RowOk.lo, nx]; first | done | omega))))⟩
        rw [hc, hf, hft]; rfl
      | false =>
        (simp (disch := first | decide | omega | (simp only [nx]; first | done | omega)) only [go_sem, Nat.reduceMul]; (repeat (with_reducible refine And.intro (by first | omega | assumption | rfl) ?_)))
        refine ⟨?_, (by (repeat' first | assumption | exact St.Sub.refl _ | exact RowOk.sub (by assumption) (by assumption) | refine St.Sub.trans ?_ (RowOk.sub (by assumption) (by assumption)) | refine St.Sub.add ?_ ?_ _ | refine St.Sub.set ?_ ?_ ?_ _ | refine St.Sub.keep ?_ ?_ | refine St.WF.leave ?_ _ | refine St.WF.add ?_ _ | refine St.WF.set ?_ ?_ _ | refine St.WF.grow ?_ _ _ _ | refine St.WF.keep ?_ ?_ | (first | omega | (simp only [RowOk.lo, nx]; first | done | omega))))⟩
        rw [hc, hf, hft]; rfl
    · have c2 : (o.kind == 2) = false := by simp [k2]
      (simp (disch := first | decide | omega | (simp only [nx]; first | done | omega)) only [go_sem, Nat.reduceMul, tupS, Option.getD_some, Option.isSome_some, c1, c2, c6]; (repeat (with_reducible refine And.intro (by first | omega | assumption | rfl) ?_)))
      refine ⟨?_, (by (repeat' first | assumption | exact St.Sub.refl _ | exact RowOk.sub (by assumption) (by assumption) | refine St.Sub.trans ?_ (RowOk.sub (by assumption) (by assumption)) | refine St.Sub.add ?_ ?_ _ | refine St.Sub.set ?_ ?_ ?_ _ | refine St.Sub.keep ?_ ?_ | refine St.WF.leave ?_ _ | refine St.WF.add ?_ _ | refine St.WF.set ?_ ?_ _ | refine St.WF.grow ?_ _ _ _ | refine St.WF.keep ?_ ?_ | (first | omega | (simp only [RowOk.lo, nx]; first | done | omega))))⟩
      have hf : fitO o t = true := by rw [fitO, if_neg k1, if_pos t6, if_neg k2]
      rw [hc, hf]; rfl
  · have c6 : (t.kind != 6) = true := by simp [t6]
    (simp (disch := first | decide | omega | (simp only [nx]; first | done | omega)) only [go_sem, Nat.reduceMul, tupS, Option.getD_some, Option.isSome_some, c1, c6]; (repeat (with_reducible refine And.intro (by first | omega | assumption | rfl) ?_)))
    refine ⟨?_, (by (repeat' first | assumption | exact St.Sub.refl _ | exact RowOk.sub (by assumption) (by assumption) | refine St.Sub.trans ?_ (RowOk.sub (by assumption) (by assumption)) | refine St.Sub.add ?_ ?_ _ | refine St.Sub.set ?_ ?_ ?_ _ | refine St.Sub.keep ?_ ?_ | refine St.WF.leave ?_ _ | refine St.WF.add ?_ _ | refine St.WF.set ?_ ?_ _ | refine St.WF.grow ?_ _ _ _ | refine St.WF.keep ?_ ?_ | (first | omega | (simp only [RowOk.lo, nx]; first | done | omega))))⟩
    have hf : fitO o t = false := by rw [fitO, if_neg k1, if_neg t6]
    rw [hc, hf]; rfl
end Go.Proofs.Ytjjhjhjphhpeiaa

namespace Go.Proofs.Ytjjhjhjphhpeiaa
open Go.RowKit
set_option linter.unusedSimpArgs false
set_option linter.unusedVariables false
/-- What is put into the place. -/
def mdV (o : DOp) (x : DVal) : DVal := if o.kind = 1 then o.val else lsV o x
def apV (o : DOp) (v : DVal) : DVal := match getV o.path v with
  | some x => chV (fun _ => mdV o x) o.path v
  | none => v
set_option maxRecDepth 200000 in
set_option maxHeartbeats 8000000 in
theorem made_o {S : St} {K : D → St → Prop} (o : DOp) (x : DVal) (ko kx : Nat) (a b c ca cb cc : Nat) {zn zi zp : List D} (h : OkO o) (hko : S.ob ko = some (.box 53 (opCs .no o))) (hkx : S.ob kx = some (.box 28 (ownV x a b c ca cb cc).cells)) (hO : OV S x a b c ca cb cc zn zi zp)
    (hx : o.kind ≠ 1 → x.kind = 6 ∧ x.parts.length = x.ids.length ∧ x.ids.length ≤ 1000000 ∧ x.names.length ≤ 1000000)
    (hK : ∀ T, Fz (fun j => j ≠ a ∧ j ≠ b ∧ j ≠ c) S T → T.WF → K (encV (mdV o x)) T) :
    DCalls Try.prog 78 [.loc ko 0, .loc kx 0] S K := by
  refine DCalls.thaw ?_
  refine dcalls_inline mixed Try.func78 rfl (fun _ _ => by kernel_rfl) (rs := [.cell 2 28]) rfl (by kernel_rfl) (fun hS => ?_)
  have l1 := hS.lt hO.obn
  have l2 := hS.lt hO.obi
  have l3 := hS.lt hO.obp
  have l4 := hS.lt hko
  have l5 := hS.lt hkx
  have e1 : ko ≠ S.next := by omega
  have e2 : kx ≠ S.next := by omega
  have hwt := h.wt
  by_cases k1 : o.kind = 1
  · have c1 : (o.kind == 1) = true := by simp [k1]
    (simp (disch := first | decide | omega | (simp only [nx]; first | done | omega)) only [go_sem, Nat.reduceMul, e1, e2, hko, hkx, c1, opCs]; (repeat (with_reducible refine And.intro (by first | omega | assumption | rfl) ?_)))
    refine ⟨_, _, Thaw.refl _ _ _, ?_⟩
    have hm : mdV o x = o.val := by rw [mdV, if_pos k1]
    rw [hm] at hK
    refine hK _ (((Fz.refl _ S).add hS).set hS (.inr (Nat.le_refl _))) ((hS.add _).set (by show S.next < S.next + 1; omega) _)
  · have c1 : (o.kind == 1) = false := by simp [k1]
    obtain ⟨x6, xl, xn, xm⟩ := hx k1
    have hm : mdV o x = lsV o x := by rw [mdV, if_neg k1]
    rw [hm] at hK
    (simp (disch := first | decide | omega | (simp only [nx]; first | done | omega)) only [go_sem, Nat.reduceMul, e1, e2, hko, hkx, c1, opCs]; (repeat (with_reducible refine And.intro (by first | omega | assumption | rfl) ?_)))
    refine list_o o x a b c ca cb cc (hO.add hS) x6 xl xn (by omega) xm fun T b' c' cb' cc' zi' zp' hF hT hb' hc' hO1 => ?_
    have hn := hF.next
    simp only [add_next] at hn hb' hc'
    have u2 := hF.ob S.next _ ⟨by omega, by omega⟩ (by (first | (simp (disch := first | decide | omega | (simp only [nx]; first | done | omega)) only [go_sem, Nat.reduceMul]; first | done | rfl) | rfl))
    (simp (disch := first | decide | omega | (simp only [nx]; first | done | omega)) only [go_sem, Nat.reduceMul, u2]; (repeat (with_reducible refine And.intro (by first | omega | assumption | rfl) ?_)))
    refine ⟨_, _, thawOV (hO1.set (k := S.next) (by omega) (by omega) (by omega)), ?_⟩
    refine hK _ ?_ ((((hT.set (by omega) _).drop _).drop _).drop _)
    have h0 : Fz (fun j => j ≠ a ∧ j ≠ b ∧ j ≠ c) S T := ((Fz.refl _ S).add hS).trans (hF.mono fun j hj => hj.2)
    have d2 : ¬ (b' ≠ a ∧ b' ≠ b ∧ b' ≠ c) ∨ S.next ≤ b' := by rcases hb' with rfl | hb'; exact .inl (fun h => h.2.1 rfl); exact .inr (by omega)
    have d3 : ¬ (c' ≠ a ∧ c' ≠ b ∧ c' ≠ c) ∨ S.next ≤ c' := by rcases hc' with rfl | hc'; exact .inl (fun h => h.2.2 rfl); exact .inr (by omega)
    exact (((h0.set hS (.inr (Nat.le_refl _))).drop hS (.inl fun h => h.1 rfl)).drop hS d2).drop hS d3
set_option maxRecDepth 200000 in
set_option maxHeartbeats 8000000 in
theorem apply_o (o : DOp) (v : DVal) (h : OkO o) (hok : okV v) (hw : v.weight ≤ 1000000) (hw2 : (apV o v).weight ≤ 1000000)
    (hx : ∀ x, getV o.path v = some x → o.kind ≠ 1 → x.kind = 6 ∧ x.parts.length = x.ids.length ∧ x.ids.length ≤ 1000000 ∧ x.names.length ≤ 1000000) :
    DPure Try.prog 52 [encO o, encV v] (encV (apV o v)) := by
  have hpl := h.path
  refine dpure_of_dwp mixed Try.func52 rfl (fun _ _ => by kernel_rfl) (rs := [.cell 4 28]) rfl (by kernel_rfl) (closed_encV _) (fun S hS => ?_)
  (simp (disch := first | decide | omega | (simp only [nx]; first | done | omega)) only [go_sem, Nat.reduceMul, opCs]; (repeat (with_reducible refine And.intro (by first | omega | assumption | rfl) ?_)))
  have hFa : Fz (fun _ => True) S (((S.add (.box 53 (opCs .no o))).add (.box 28 (encV v).cells)).add (.box 28 [.v (.int .i64 0), .v (.int .i64 0), .v (.string ⟨#[]⟩), .sl .full [], .sl .full [], .sl .full []])) := (((Fz.refl _ S).add hS).add hS).add hS
  refine get_o v o.path .no hok (by omega) (by omega) (fun T hg hF hT => ?_) (fun T u a b c ca cb cc zn zi zp hg hF hT ha hb hc hO => ?_)
  · have hn := hF.next
    simp only [add_next] at hn
    have u2 : T.ob S.next = some (.box 53 (opCs .no o)) := hF.ob S.next _ trivial (by (first | (simp (disch := first | decide | omega | (simp only [nx]; first | done | omega)) only [go_sem, Nat.reduceMul, opCs]; first | done | rfl) | rfl))
    have u3 := hF.ob (S.next + 1) _ trivial (by (first | (simp (disch := first | decide | omega | (simp only [nx]; first | done | omega)) only [go_sem, Nat.reduceMul]; first | done | rfl) | rfl))
    have u4 := hF.ob (S.next + 1 + 1) _ trivial (by (first | (simp (disch := first | decide | omega | (simp only [nx]; first | done | omega)) only [go_sem, Nat.reduceMul]; first | done | rfl) | rfl))
    have e1 : S.next ≠ T.next := by omega
    have e2 : S.next + 1 ≠ T.next := by omega
    have e3 : S.next + 1 + 1 ≠ T.next := by omega
    (simp (disch := first | decide | omega | (simp only [nx]; first | done | omega)) only [go_sem, Nat.reduceMul, zCells, u2, u3, u4, e1, e2, e3]; (repeat (with_reducible refine And.intro (by first | omega | assumption | rfl) ?_)))
    refine ⟨?_, ?_⟩
    rotate_left
    · have hz := (((hFa.trans hF).add hS (o := .box 28 zCells)).set hS (k := T.next) (o := .box 28 zCells) (.inr (by omega))).set hS (k := S.next + 1 + 1) (o := .box 28 (encV v).cells) (.inr (by omega))
      exact ⟨hz.next, fun j o' e => hz.ob j o' trivial e⟩
    rw [frz_encV, apV, hg]
  · have hn := hF.next
    simp only [add_next] at hn ha hb hc
    have u2 : T.ob S.next = some (.box 53 (opCs .no o)) := hF.ob S.next _ trivial (by (first | (simp (disch := first | decide | omega | (simp only [nx]; first | done | omega)) only [go_sem, Nat.reduceMul, opCs]; first | done | rfl) | rfl))
    have u3 := hF.ob (S.next + 1) _ trivial (by (first | (simp (disch := first | decide | omega | (simp only [nx]; first | done | omega)) only [go_sem, Nat.reduceMul]; first | done | rfl) | rfl))
    have u4 := hF.ob (S.next + 1 + 1) _ trivial (by (first | (simp (disch := first | decide | omega | (simp only [nx]; first | done | omega)) only [go_sem, Nat.reduceMul]; first | done | rfl) | rfl))
    have e1 : S.next ≠ T.next := by omega
    have e2 : S.next + 1 ≠ T.next := by omega
    have e3 : S.next + 1 + 1 ≠ T.next := by omega
    (simp (disch := first | decide | omega | (simp only [nx]; first | done | omega)) only [go_sem, Nat.reduceMul, u2, u3, u4, e1, e2, e3]; (repeat (with_reducible refine And.intro (by first | omega | assumption | rfl) ?_)))
    obtain ⟨T1, hT1e⟩ : ∃ T1, (T.add (.box 28 [.v (.int .i64 0), .v (.int .i64 0), .v (.string ⟨#[]⟩), .sl .full [], .sl .full [], .sl .full []])).set T.next (.box 28 (ownV u a b c ca cb cc).cells) = T1 := ⟨_, rfl⟩
    have hT1 : T1.WF := by rw [← hT1e]; exact (hT.add _).set (by show T.next < T.next + 1; omega) _
    have hF1 : Fz (fun _ => True) T T1 := by rw [← hT1e]; exact ((Fz.refl _ T).add hT).set hT (.inr (Nat.le_refl _))
    have hn1 : T1.next = T.next + 1 := by rw [← hT1e]; rfl
    have w2 := hF1.ob _ _ trivial u2
    have w3 := hF1.ob _ _ trivial u3
    have w4 := hF1.ob _ _ trivial u4
    have w5 : T1.ob T.next = some (.box 28 (ownV u a b c ca cb cc).cells) := by rw [← hT1e]; (first | (simp (disch := first | decide | omega | (simp only [nx]; first | done | omega)) only [go_sem, Nat.reduceMul]; first | done | rfl) | rfl)
    have hO1 := hO.fz hF1
    rw [hT1e]
    have hsome : (getV o.path v).isSome = true := by rw [hg]; rfl
    have hap : apV o v = chV (fun _ => mdV o u) o.path v := by rw [apV, hg]
    have hput := put_d v (mdV o u) o.path .no hok (by omega) (by omega) (by rw [← hap]; exact hw2)
    rw [hsome, ← hap] at hput
    have la := hT1.lt hO1.obn
    have lb := hT1.lt hO1.obi
    have lc := hT1.lt hO1.obp
    have hq : ∀ j, j < S.next + 1 + 1 + 1 → j ≠ a ∧ j ≠ b ∧ j ≠ c := fun j hj => ⟨by omega, by omega, by omega⟩
    have fin : ∀ X : St, Fz (fun j => j < S.next) T1 X → S.Sub X := fun X hX => ⟨by have := hX.next; omega, fun j o' e => hX.ob j o' (hS.lt e) ((hFa.trans hF).trans hF1 |>.ob j o' trivial e)⟩
    refine ddraw_any (fun S' => S'.ob (S.next + 1) = some (.box 28 (encV v).cells) ∧ S'.ob S.next = some (.box 53 (opCs .no o))) 12 (by (first | (simp (disch := first | decide | omega | (simp only [nx]; first | done | omega)) only [go_sem, Nat.reduceMul, w2, w3]; first | done | rfl) | rfl)) (by kernel_rfl) ?_
    (refine s_take 0 rfl (by kernel_rfl) (by kernel_rfl) (v := ?v1) (fun S' hz => dquietR_of ?h1) <| s_take 1 rfl (by kernel_rfl) (by kernel_rfl) (v := ?v2) (fun S' hz => dquietR_of ?h2) <| s_take 3 rfl (by kernel_rfl) (by kernel_rfl) (v := ?v3) (fun S' hz => dquietR_of ?h3) <| s_take 4 rfl (by kernel_rfl) (by kernel_rfl) (v := ?v4) (fun S' hz => dquietR_of ?h4) <| ?k4; (case h1 | h2 | h3 | h4 => ((simp (disch := first | decide | omega | (simp only [nx]; first | done | omega)) only [go_sem, Nat.reduceMul, opCs, hz]; (repeat (with_reducible refine And.intro (by first | omega | assumption | rfl) ?_))); first | done | exact rfl | omega)))
    refine s_split [2, 9] (by kernel_rfl) (by simp) ?_
    intro j hj
    simp only [List.mem_cons, List.not_mem_nil, or_false] at hj
    rcases hj with rfl | rfl
    · refine s_op rfl ?_
      (simp (disch := first | decide | omega | (simp only [nx]; first | done | omega)) only [go_sem, Nat.reduceMul]; (repeat (with_reducible refine And.intro (by first | omega | assumption | rfl) ?_)))
      refine made_o o u S.next T.next a b c ca cb cc h w2 w5 hO1 (hx u hg) fun T2 hF2 hT2 => ?_
      have hn2 := hF2.next
      have x2 := hF2.ob _ _ (hq _ (by omega)) w2
      have x3 := hF2.ob _ _ (hq _ (by omega)) w3
      have x4 := hF2.ob _ _ (hq _ (by omega)) w4
      refine ⟨⟨x3, x2⟩, ?_⟩
      (refine s_take 5 rfl (by kernel_rfl) (by kernel_rfl) (v := ?v5) (fun S' hz => dquietR_of ?h5) ?k5; (case h5 => ((simp (disch := first | decide | omega | (simp only [nx]; first | done | omega)) only [go_sem, Nat.reduceMul, hz]; (repeat (with_reducible refine And.intro (by first | omega | assumption | rfl) ?_))); refine dqgo_mk (hput) ?_; exact rfl)))
      (refine s_take 6 rfl (by kernel_rfl) (by kernel_rfl) (v := ?v6) (fun S' hz => dquietR_of ?h6) <| s_take 7 rfl (by kernel_rfl) (by kernel_rfl) (v := ?v7) (fun S' hz => dquietR_of ?h7) <| s_take 8 rfl (by kernel_rfl) (by kernel_rfl) (v := ?v8) (fun S' hz => dquietR_of ?h8) <| ?k8; (case h6 | h7 | h8 => ((simp (disch := first | decide | omega | (simp only [nx]; first | done | omega)) only [go_sem, Nat.reduceMul, hz]; (repeat (with_reducible refine And.intro (by first | omega | assumption | rfl) ?_))); first | done | exact rfl | omega)))
      have f1 : S.next ≠ T2.next := by omega
      have f2 : S.next + 1 ≠ T2.next := by omega
      have f3 : S.next + 1 + 1 ≠ T2.next := by omega
      (refine s_split [9] (by kernel_rfl) (by simp) ?_; intro j_ hj_; obtain rfl : j_ = 9 := (by simpa using hj_); clear hj_; refine s_op rfl ?_; (simp (disch := first | decide | omega | (simp only [nx]; first | done | omega)) only [go_sem, Nat.reduceMul, x2, x3, f1, f2]; (repeat (with_reducible refine And.intro (by first | omega | assumption | rfl) ?_))))
      (refine s_split [10] (by kernel_rfl) (by simp) ?_; intro j_ hj_; obtain rfl : j_ = 10 := (by simpa using hj_); clear hj_; refine s_op rfl ?_; (simp (disch := first | decide | omega | (simp only [nx]; first | done | omega)) only [go_sem, Nat.reduceMul, x2, x3, f1, f2]; (repeat (with_reducible refine And.intro (by first | omega | assumption | rfl) ?_))))
      (refine s_take 11 rfl (by kernel_rfl) (by kernel_rfl) (v := ?v9) (fun S' hz => dquietR_of ?h9) ?k9; (case h9 => ((simp (disch := first | decide | omega | (simp only [nx]; first | done | omega)) only [go_sem, Nat.reduceMul, hz]; (repeat (with_reducible refine And.intro (by first | omega | assumption | rfl) ?_))); first | done | exact rfl | omega)))
      (refine s_done (by kernel_rfl) ?_; (simp (disch := first | decide | omega | (simp only [nx]; first | done | omega)) only [go_sem, Nat.reduceMul, x4, f3]; (repeat (with_reducible refine And.intro (by first | omega | assumption | rfl) ?_))))
      refine ⟨?_, fin _ ?_⟩
      · rw [frz_encV]
      · have hF2' : Fz (fun j => j < S.next) T1 T2 := hF2.mono fun j hj => hq j (by omega)
        exact ((hF2'.add hT1).set hT1 (.inr hn2)).set hT1 (.inl (by omega))
    · refine s_op rfl ?_
      have f1 : S.next ≠ T1.next := by omega
      have f2 : S.next + 1 ≠ T1.next := by omega
      (simp (disch := first | decide | omega | (simp only [nx]; first | done | omega)) only [go_sem, Nat.reduceMul, w2, w3, f1, f2]; (repeat (with_reducible refine And.intro (by first | omega | assumption | rfl) ?_)))
      refine s_split [2] (by kernel_rfl) (by simp) ?_
      intro j hj
      obtain rfl : j = 2 := by simpa using hj
      refine s_op rfl ?_
      (simp (disch := first | decide | omega | (simp only [nx]; first | done | omega)) only [go_sem, Nat.reduceMul]; (repeat (with_reducible refine And.intro (by first | omega | assumption | rfl) ?_)))
      have g1 : T.next ≠ T1.next := by omega
      refine made_o o u S.next T.next a b c ca cb cc h (by (first | (simp (disch := first | decide | omega | (simp only [nx]; first | done | omega)) only [go_sem, Nat.reduceMul, w2, f1]; first | done | rfl) | rfl)) (by (first | (simp (disch := first | decide | omega | (simp only [nx]; first | done | omega)) only [go_sem, Nat.reduceMul, w5, g1]; first | done | rfl) | rfl)) (hO1.add hT1) (hx u hg) fun T2 hF2 hT2 => ?_
      have hn2 := hF2.next
      simp only [add_next] at hn2
      have f3 : S.next + 1 + 1 ≠ T1.next := by omega
      have x2 : T2.ob S.next = some (.box 53 (opCs .no o)) := hF2.ob _ _ (hq _ (by omega)) (by (first | (simp (disch := first | decide | omega | (simp only [nx]; first | done | omega)) only [go_sem, Nat.reduceMul, w2, f1]; first | done | rfl) | rfl))
      have x3 : T2.ob (S.next + 1) = some (.box 28 (encV v).cells) := hF2.ob _ _ (hq _ (by omega)) (by (first | (simp (disch := first | decide | omega | (simp only [nx]; first | done | omega)) only [go_sem, Nat.reduceMul, w3, f2]; first | done | rfl) | rfl))
      have x4 := hF2.ob (S.next + 1 + 1) _ (hq _ (by omega)) (by (first | (simp (disch := first | decide | omega | (simp only [nx]; first | done | omega)) only [go_sem, Nat.reduceMul, w4, f3]; first | done | rfl) | rfl))
      have x8 := hF2.ob T1.next _ ⟨by omega, by omega, by omega⟩ (by (first | (simp (disch := first | decide | omega | (simp only [nx]; first | done | omega)) only [go_sem, Nat.reduceMul]; first | done | rfl) | rfl))
      refine ⟨⟨x3, x2⟩, ?_⟩
      (refine s_take 5 rfl (by kernel_rfl) (by kernel_rfl) (v := ?v10) (fun S' hz => dquietR_of ?h10) ?k10; (case h10 => ((simp (disch := first | decide | omega | (simp only [nx]; first | done | omega)) only [go_sem, Nat.reduceMul, hz]; (repeat (with_reducible refine And.intro (by first | omega | assumption | rfl) ?_))); refine dqgo_mk (hput) ?_; exact rfl)))
      (refine s_take 6 rfl (by kernel_rfl) (by kernel_rfl) (v := ?v11) (fun S' hz => dquietR_of ?h11) <| s_take 7 rfl (by kernel_rfl) (by kernel_rfl) (v := ?v12) (fun S' hz => dquietR_of ?h12) <| s_take 8 rfl (by kernel_rfl) (by kernel_rfl) (v := ?v13) (fun S' hz => dquietR_of ?h13) <| ?k13; (case h11 | h12 | h13 => ((simp (disch := first | decide | omega | (simp only [nx]; first | done | omega)) only [go_sem, Nat.reduceMul, hz]; (repeat (with_reducible refine And.intro (by first | omega | assumption | rfl) ?_))); first | done | exact rfl | omega)))
      (refine s_split [10] (by kernel_rfl) (by simp) ?_; intro j_ hj_; obtain rfl : j_ = 10 := (by simpa using hj_); clear hj_; refine s_op rfl ?_; (simp (disch := first | decide | omega | (simp only [nx]; first | done | omega)) only [go_sem, Nat.reduceMul, x2, x3, x8, f1, f2]; (repeat (with_reducible refine And.intro (by first | omega | assumption | rfl) ?_))))
      (refine s_take 11 rfl (by kernel_rfl) (by kernel_rfl) (v := ?v14) (fun S' hz => dquietR_of ?h14) ?k14; (case h14 => ((simp (disch := first | decide | omega | (simp only [nx]; first | done | omega)) only [go_sem, Nat.reduceMul, hz]; (repeat (with_reducible refine And.intro (by first | omega | assumption | rfl) ?_))); first | done | exact rfl | omega)))
      (refine s_done (by kernel_rfl) ?_; (simp (disch := first | decide | omega | (simp only [nx]; first | done | omega)) only [go_sem, Nat.reduceMul, x4, f3]; (repeat (with_reducible refine And.intro (by first | omega | assumption | rfl) ?_))))
      refine ⟨?_, fin _ ?_⟩
      · rw [frz_encV]
      · have hF2' : Fz (fun j => j < S.next) T1 T2 := ((Fz.refl _ T1).add hT1).trans (hF2.mono fun j hj => hq j (by omega))
        exact (hF2'.set hT1 (.inr (Nat.le_refl _))).set hT1 (.inl (by omega))
end Go.Proofs.Ytjjhjhjphhpeiaa

namespace Go.Proofs.Ytjjhjhjphhpeiaa
open Go.RowKit
theorem parts_wp (v : DVal) (ps : List DVal) : (v.withParts ps).parts = ps ∧ (v.withParts ps).kind = v.kind ∧ (v.withParts ps).names = v.names ∧ (v.withParts ps).ids = v.ids := ⟨rfl, rfl, rfl, rfl⟩
theorem place_wp (v : DVal) (ps : List DVal) (h : ps.length = v.parts.length) (p : DStp) : placeOf (v.withParts ps) p = placeOf v p := by
  have hw : wholeB (v.withParts ps) = wholeB v := by
    unfold wholeB
    rw [(parts_wp v ps).1, (parts_wp v ps).2.1, (parts_wp v ps).2.2.1, h]
  unfold placeOf
  rw [hw, (parts_wp v ps).2.1, (parts_wp v ps).2.2.1, (parts_wp v ps).2.2.2]
theorem getV_ok : ∀ (p : List DStp) {v u : DVal}, okV v → getV p v = some u → okV u
  | [], v, u, h, e => by injection e with e; exact e ▸ h
  | p :: ps, v, u, h, e => by
    rw [getV_cons] at e
    split at e
    · rename_i hin
      have hpl : plN v p < v.parts.length := by have := hin.1; have := hin.2; unfold plN; omega
      exact getV_ok ps (((okV_eq v).1 h).2.2.2.2.2.2.2.2 _ (by rw [getD_at hpl]; exact List.getElem_mem _)) e
    · cases e
end Go.Proofs.Ytjjhjhjphhpeiaa

namespace Go.Proofs.Ytjjhjhjphhpeiaa
open Go.RowKit
set_option linter.unusedSimpArgs false
set_option linter.unusedVariables false
theorem chkO_zero {o : DOp} {s : DSch} (h : chkO o s = 0) : rightO o = true ∧ rightS 5 s = true ∧ ∃ t, typS o.path s = some t ∧ fitO o t = true := by
  unfold chkO at h
  split at h
  · rename_i h1
    split at h
    · rename_i t ht
      split at h
      · rename_i hf
        exact ⟨h1.1, h1.2, t, ht, hf⟩
      · omega
    · omega
  · omega
theorem rightO_id {o : DOp} (h : rightO o = true) (h2 : o.kind = 2) : o.id ≠ 0 := by
  unfold rightO at h
  rw [if_neg (by omega), if_pos h2] at h
  simp only [Bool.and_eq_true, decide_eq_true_eq] at h
  exact h.2.1.1
theorem fitO_made {o : DOp} {t : DSch} {x : DVal} (hr : rightO o = true) (hf : fitO o t = true) (hx : GV x t) (ht : RS t) : GV (mdV o x) t ∧ (o.kind ≠ 1 → t.kind = 6) := by
  unfold fitO at hf
  unfold mdV
  by_cases k1 : o.kind = 1
  · rw [if_pos k1] at hf ⊢
    exact ⟨(fitsTop_iff.1 hf).2, fun h => absurd k1 h⟩
  · rw [if_neg k1] at hf ⊢
    split at hf
    · rename_i t6
      refine ⟨hx.ls ht t6 fun k2 => ⟨rightO_id hr k2, ?_⟩, fun _ => t6⟩
      rw [if_pos k2] at hf
      exact (fitsTop_iff.1 hf).2
    · cases hf
/-- An operation that fits makes a value that fits of one that does. -/
theorem apV_fits {o : DOp} {s : DSch} {v : DVal} (h : GV v s) (hc : chkO o s = 0) : GV (apV o v) s := by
  obtain ⟨hr, hs, t, ht, hf⟩ := chkO_zero hc
  obtain ⟨hS, _⟩ := RS.of_top hs
  unfold apV
  cases hg : getV o.path v with
  | none => exact h
  | some x =>
    obtain ⟨g1, g2, _⟩ := GV.get o.path h hS ht hg
    exact GV.put o.path h hS ht hg (fitO_made hr hf g1 g2).1
theorem apV_list {o : DOp} {s : DSch} {v x : DVal} (h : GV v s) (hc : chkO o s = 0) (hg : getV o.path v = some x) (k1 : o.kind ≠ 1) : x.kind = 6 ∧ x.parts.length = x.ids.length ∧ x.ids.length ≤ 12 ∧ x.names.length = 0 := by
  obtain ⟨hr, hs, t, ht, hf⟩ := chkO_zero hc
  obtain ⟨hS, _⟩ := RS.of_top hs
  obtain ⟨g1, g2, _⟩ := GV.get o.path h hS ht hg
  have t6 := (fitO_made hr hf g1 g2).2 k1
  have hl := g1.list t6
  exact ⟨hl.kind, hl.len, hl.most, by rw [hl.names]; rfl⟩
def wtK : Nat → Nat
  | 0 => 0
  | k + 1 => 13 + 12 * wtK k
theorem weights_le (l : List DVal) (m : Nat) (h : ∀ p ∈ l, p.weight ≤ m) : DVal.weights l ≤ l.length * m := by
  induction l with
  | nil => simp [DVal.weights]
  | cons a l ih =>
    have h1 := h a (by simp)
    have h2 := ih fun p hp => h p (by simp [hp])
    simp only [DVal.weights, List.length_cons, Nat.add_mul]
    omega
theorem GV.weight : ∀ (k : Nat) {v : DVal} {s : DSch}, s.depth ≤ k → GV v s → v.weight ≤ wtK k
  | 0, v, s, hk, h => by have := s.depth_pos; omega
  | k + 1, v, s, hk, h => by
    obtain ⟨b1, b2, _, _⟩ := here_parts h.here_
    have hh := h.rv.here
    unfold bad1 at b1
    unfold bad2 at b2
    have hn : v.names.length + v.ids.length ≤ 12 := by
      by_cases h5 : v.kind = 5
      · have := hh.2.1 (by omega); omega
      · have := hh.1 h5; omega
    have h1 := weights_le v.parts (wtK k) fun p hp => by
      obtain ⟨i, hi, rfl⟩ := List.getElem_of_mem hp
      have ha := h.at_ hi
      have hg := h.part hi
      rw [getD_at ha] at hg
      exact GV.weight k (by have := DSch.depth_part (List.getElem_mem ha); omega) hg
    have h2 : v.parts.length * wtK k ≤ 12 * wtK k := Nat.mul_le_mul_right _ (by omega)
    rw [v.weight_eq]
    show _ ≤ 13 + 12 * wtK k
    omega
theorem wtK_mono {a b : Nat} (h : a ≤ b) : wtK a ≤ wtK b := by
  induction b generalizing a with
  | zero => have : a = 0 := by omega
            subst this; exact Nat.le_refl _
  | succ b ih =>
    cases a with
    | zero => exact Nat.zero_le _
    | succ a => have := ih (a := a) (by omega); simp only [wtK]; omega
theorem GV.wt {v : DVal} {s : DSch} (h : GV v s) (hs : rightS 5 s = true) : v.weight ≤ 1000000 := by
  have h1 := GV.weight s.depth (Nat.le_refl _) h
  have h2 := wtK_mono (RS.of_top hs).2
  have h3 : wtK 5 = 294073 := by decide
  omega
theorem okV_parts {v : DVal} (h : okV v) {ps : List DVal} (hl : ps.length ≤ 140737488351232) (hp : ∀ p ∈ ps, okV p) : okV (v.withParts ps) := by
  obtain ⟨o1, o2, o3, o4, o5, o6, o7, o8, o9⟩ := (okV_eq v).1 h
  exact (okV_eq _).2 ⟨o1, o2, o3, o4, o5, o6, o7, hl, hp⟩
theorem chV_ok {y : DVal} (hy : okV y) : ∀ (ps : List DStp) {v : DVal}, okV v → okV (chV (fun _ => y) ps v)
  | [], v, _ => hy
  | p :: ps, v, h => by
    rw [chV]
    split
    · rename_i hin
      obtain ⟨o1, o2, o3, o4, o5, o6, o7, o8, o9⟩ := (okV_eq v).1 h
      have hpl : plN v p < v.parts.length := by have := hin.1; have := hin.2; unfold plN; omega
      refine okV_parts h (by rw [List.length_set]; exact o8) fun q hq => ?_
      rcases List.mem_or_eq_of_mem_set hq with hq | rfl
      · exact o9 q hq
      · rw [getD_at hpl]
        exact chV_ok hy ps (o9 _ (List.getElem_mem hpl))
    · exact h
theorem okV_ofList {v : DVal} (h : okV v) {is : List Nat} {ps : List DVal} (h1 : ∀ i ∈ is, U64 (i : Int)) (h2 : is.length ≤ 140737488351232) (h3 : ps.length ≤ 140737488351232) (h4 : ∀ p ∈ ps, okV p) : okV (v.ofList is ps) := by
  obtain ⟨o1, o2, o3, o4, o5, o6, o7, o8, o9⟩ := (okV_eq v).1 h
  exact (okV_eq _).2 ⟨o1, o2, o3, o4, o5, h1, h2, h3, h4⟩
theorem plV_ok {v x : DVal} (h : okV v) (hx : okV x) {id after : Nat} (hid : U64 (id : Int)) (hl : v.parts.length = v.ids.length) (hn : v.ids.length ≤ 1000000) : okV (plV v id after x) := by
  obtain ⟨o1, o2, o3, o4, o5, o6, o7, o8, o9⟩ := (okV_eq v).1 h
  refine okV_ofList h (fun i hi => ?_) (by rw [ins_len _ _ (plK_le v after)]; omega) (by rw [ins_len _ _ (by rw [hl]; exact plK_le v after)]; omega) fun p hp => ?_
  · rcases List.mem_cons.1 ((perm_ins v.ids id (plK v after)).mem_iff.1 hi) with e | e
    · rw [e]; exact hid
    · exact o6 i e
  · rcases List.mem_cons.1 ((perm_ins v.parts x (plK v after)).mem_iff.1 hp) with e | e
    · rw [e]; exact hx
    · exact o9 p e
theorem tkV_ok {v : DVal} (h : okV v) (k : Nat) : okV (tkV v k) := by
  obtain ⟨o1, o2, o3, o4, o5, o6, o7, o8, o9⟩ := (okV_eq v).1 h
  have s1 := sub_del v.ids k
  have s2 := sub_del v.parts k
  exact okV_ofList h (fun i hi => o6 i (s1.subset hi)) (by have := s1.length_le; omega) (by have := s2.length_le; omega) fun p hp => o9 p (s2.subset hp)
theorem lsV_ok {o : DOp} {v : DVal} (h : okV v) (ho : OkO o) (hl : v.parts.length = v.ids.length) (hn : v.ids.length ≤ 1000000) : okV (lsV o v) := by
  unfold lsV
  split
  · split
    · exact plV_ok h ho.val ho.id hl hn
    · exact h
  · split
    · exact h
    · rename_i hm
      have hm : o.id ∈ v.ids := Classical.not_not.1 hm
      have hk : elK o v < v.ids.length := ix_lt hm
      split
      · have hpl : elK o v < v.parts.length := by omega
        refine plV_ok (tkV_ok h _) ?_ ho.id (by rw [tkV_plen hpl, tkV_ilen hk, hl]) (by rw [tkV_ilen hk]; omega)
        rw [getD_at hpl]
        exact ((okV_eq v).1 h).2.2.2.2.2.2.2.2 _ (List.getElem_mem hpl)
      · exact tkV_ok h _
theorem apV_ok {o : DOp} {s : DSch} {v : DVal} (h : GV v s) (hc : chkO o s = 0) (hok : okV v) (ho : OkO o) : okV (apV o v) := by
  unfold apV
  cases hg : getV o.path v with
  | none => exact hok
  | some x =>
    refine chV_ok ?_ o.path hok
    unfold mdV
    split
    · exact ho.val
    · rename_i k1
      obtain ⟨_, h2, h3, _⟩ := apV_list h hc hg k1
      exact lsV_ok (getV_ok _ hok hg) ho h2 (by omega)
noncomputable def apS (s : DSch) (v : DVal) (o : DOp) : DVal := if chkO o s = 0 then apV o v else v
/-- What operations make of a value. -/
noncomputable def applyV (s : DSch) (v : DVal) (l : List DOp) : DVal := if fitsTop v s = true then l.foldl (apS s) v else v
theorem apS_fits {s : DSch} {v : DVal} {o : DOp} (h : GV v s) : GV (apS s v o) s := by
  unfold apS
  split
  · rename_i hc; exact apV_fits h hc
  · exact h
theorem apS_ok {s : DSch} {v : DVal} {o : DOp} (h : GV v s) (hok : okV v) (ho : OkO o) : okV (apS s v o) := by
  unfold apS
  split
  · rename_i hc; exact apV_ok h hc hok ho
  · exact hok
theorem fold_fits {s : DSch} : ∀ (l : List DOp) {v : DVal}, GV v s → okV v → (∀ o ∈ l, OkO o) → GV (l.foldl (apS s) v) s ∧ okV (l.foldl (apS s) v)
  | [], v, h, hok, _ => ⟨h, hok⟩
  | o :: l, v, h, hok, ho => fold_fits l (apS_fits h) (apS_ok h hok (ho o (by simp))) fun q hq => ho q (by simp [hq])
end Go.Proofs.Ytjjhjhjphhpeiaa

namespace Go.Proofs.Ytjjhjhjphhpeiaa
open Go.RowKit
set_option linter.unusedSimpArgs false
set_option linter.unusedVariables false
/-- A list, by itself. -/
def listV (is : List Nat) (ps : List DVal) : DVal := .mk 6 0 [] [] is ps
def outL (d1 d2 : D) : List D := [.v (.int .i64 6), .v (.int .i64 0), .v (.string ⟨#[]⟩), .sl .full [], d1, d2]
end Go.Proofs.Ytjjhjhjphhpeiaa

namespace Go.Proofs.Ytjjhjhjphhpeiaa
open Go.RowKit
set_option linter.unusedSimpArgs false
attribute [go_sem] sv_beq
set_option maxRecDepth 200000 in
set_option maxHeartbeats 4000000 in
theorem refFieldI_d (v : DVal) (x : Str) (hw : v.weight ≤ 1000000) : DPure Try.prog 35 [encV v, .v (sv x)] (.v (.int .i64 (ixI v.names x))) := by
  have hww := v.weight_eq
  refine dpure_of_dwp mixed Try.func35 rfl (fun _ _ => by kernel_rfl) (rs := [.tmp 4]) rfl (by kernel_rfl) trivial (fun S hS => ?_)
  (simp (disch := first | decide | omega | (simp only [nx]; first | done | omega)) only [go_sem, Nat.reduceMul, encV_eq v]; (repeat (with_reducible refine And.intro (by first | omega | assumption | rfl) ?_)))
  (refine dloop_st (fun t => List.contains [4, 5, 6, 7, 8, 9, 10, 11, 12, 13, 14, 15, 16, 17, 18, 19, 20] t) (by kernel_rfl) ?_ (v.names.length) (fun i f => i ≤ v.names.length ∧ f 5 = .v (.int .i64 (i : Nat)) ∧ (∀ j (hj : j < v.names.length), j < i → v.names[j] ≠ x)) ?_ ?_; (exact (by (repeat' first | assumption | refine St.WF.leave ?_ _ | refine St.WF.add ?_ _ | refine St.WF.set ?_ ?_ _ | refine St.WF.grow ?_ _ _ _ | refine St.WF.keep ?_ ?_ | (first | omega | (simp only [RowOk.lo, nx]; first | done | omega))))); (exact ⟨(by omega), (by (first | (simp (disch := first | decide | omega | (simp only [nx]; first | done | omega)) only [go_sem, Nat.reduceMul]; first | done | rfl) | rfl)), (fun j _ hj => by omega)⟩); intro i g tn hn hT hg hI; obtain ⟨le, q5, hno⟩ := hI; have q1 := hg 1 rfl; have q2 := hg 2 rfl; simp (disch := first | decide | omega | (simp only [nx]; first | done | omega)) only [go_sem, Nat.reduceMul] at q1 q2; clear hg; have hn' := hn; try simp only [add_next, set_next, grow_next, leave_next, drop_next] at hn')
  by_cases hlt : i < v.names.length
  · have b1 : decide ((i : Int) < (v.names.length : Int)) = true := by simp; omega
    have w1 : IntKind.i64.wrap ((i : Int) + 1) = ((i + 1 : Nat) : Int) := IntWalk.i64_in _ ⟨by omega, by omega⟩
    by_cases hx : v.names[i] = x
    · have b2 : (v.names[i] == x) = true := by simp [hx]
      (simp (disch := first | decide | omega | (simp only [nx]; first | done | omega)) only [go_sem, Nat.reduceMul, q1, q2, q5, b1, b2]; (repeat (with_reducible refine And.intro (by first | omega | assumption | rfl) ?_)))
      refine ⟨?_, (by (repeat' first | assumption | exact St.Sub.refl _ | exact RowOk.sub (by assumption) (by assumption) | refine St.Sub.trans ?_ (RowOk.sub (by assumption) (by assumption)) | refine St.Sub.add ?_ ?_ _ | refine St.Sub.set ?_ ?_ ?_ _ | refine St.Sub.keep ?_ ?_ | refine St.WF.leave ?_ _ | refine St.WF.add ?_ _ | refine St.WF.set ?_ ?_ _ | refine St.WF.grow ?_ _ _ _ | refine St.WF.keep ?_ ?_ | (first | omega | (simp only [RowOk.lo, nx]; first | done | omega))))⟩
      rw [ixI_first hlt hx fun j hj => hno j (by omega) hj]
      rfl
    · have b2 : (v.names[i] == x) = false := by simp [hx]
      (simp (disch := first | decide | omega | (simp only [nx]; first | done | omega)) only [go_sem, Nat.reduceMul, q1, q2, q5, b1, b2, w1]; (repeat (with_reducible refine And.intro (by first | omega | assumption | rfl) ?_)))
      (refine ⟨by omega, (by (repeat' first | assumption | exact St.Sub.refl _ | exact RowOk.sub (by assumption) (by assumption) | refine St.Sub.trans ?_ (RowOk.sub (by assumption) (by assumption)) | refine St.Sub.add ?_ ?_ _ | refine St.Sub.set ?_ ?_ ?_ _ | refine St.Sub.keep ?_ ?_ | refine St.WF.leave ?_ _ | refine St.WF.add ?_ _ | refine St.WF.set ?_ ?_ _ | refine St.WF.grow ?_ _ _ _ | refine St.WF.keep ?_ ?_ | (first | omega | (simp only [RowOk.lo, nx]; first | done | omega)))), ?_⟩; refine ⟨by omega, ?_, ?_⟩; all_goals (try (first | (simp (disch := first | decide | omega | (simp only [nx]; first | done | omega)) only [go_sem, Nat.reduceMul, w1]; first | done | rfl) | rfl)))
      intro j hj hji
      by_cases e : j = i
      · subst e; exact hx
      · exact hno j hj (by omega)
  · have b1 : decide ((i : Int) < (v.names.length : Int)) = false := by simp; omega
    (simp (disch := first | decide | omega | (simp only [nx]; first | done | omega)) only [go_sem, Nat.reduceMul, q1, q2, q5, b1]; (repeat (with_reducible refine And.intro (by first | omega | assumption | rfl) ?_)))
    refine ⟨?_, (by (repeat' first | assumption | exact St.Sub.refl _ | exact RowOk.sub (by assumption) (by assumption) | refine St.Sub.trans ?_ (RowOk.sub (by assumption) (by assumption)) | refine St.Sub.add ?_ ?_ _ | refine St.Sub.set ?_ ?_ ?_ _ | refine St.Sub.keep ?_ ?_ | refine St.WF.leave ?_ _ | refine St.WF.add ?_ _ | refine St.WF.set ?_ ?_ _ | refine St.WF.grow ?_ _ _ _ | refine St.WF.keep ?_ ?_ | (first | omega | (simp only [RowOk.lo, nx]; first | done | omega))))⟩
    rw [ixI_none fun j hj => hno j hj (by omega)]
    rfl
/-- The place of an element, or -1. -/
def elemI (v : DVal) (x : Nat) : Int := if v.kind = 6 then ixI v.ids x else -1
set_option maxRecDepth 200000 in
set_option maxHeartbeats 4000000 in
theorem refElem_d (v : DVal) (x : Nat) (hw : v.weight ≤ 1000000) : DPure Try.prog 13 [encV v, .v (uv x)] (.v (.int .i64 (elemI v x))) := by
  have hww := v.weight_eq
  refine dpure_of_dwp mixed Try.func13 rfl (fun _ _ => by kernel_rfl) (rs := [.tmp 4]) rfl (by kernel_rfl) trivial (fun S hS => ?_)
  (simp (disch := first | decide | omega | (simp only [nx]; first | done | omega)) only [go_sem, Nat.reduceMul, encV_eq v]; (repeat (with_reducible refine And.intro (by first | omega | assumption | rfl) ?_)))
  by_cases h6 : v.kind = 6
  · have b6 : (v.kind == 6) = true := by simp [h6]
    (refine dloop_st (fun t => List.contains [4, 5, 6, 7, 8, 9, 10, 11, 12, 13, 14, 15, 16, 17, 18, 19, 20, 21, 22, 23, 24, 25] t) (by kernel_rfl) ?_ (v.ids.length) (fun i f => i ≤ v.ids.length ∧ f 5 = .v (.int .i64 (i : Nat)) ∧ (∀ j (hj : j < v.ids.length), j < i → v.ids[j] ≠ x)) ?_ ?_; (exact (by (repeat' first | assumption | refine St.WF.leave ?_ _ | refine St.WF.add ?_ _ | refine St.WF.set ?_ ?_ _ | refine St.WF.grow ?_ _ _ _ | refine St.WF.keep ?_ ?_ | (first | omega | (simp only [RowOk.lo, nx]; first | done | omega))))); (exact ⟨(by omega), (by (first | (simp (disch := first | decide | omega | (simp only [nx]; first | done | omega)) only [go_sem, Nat.reduceMul]; first | done | rfl) | rfl)), (fun j _ hj => by omega)⟩); intro i g tn hn hT hg hI; obtain ⟨le, q5, hno⟩ := hI; have q1 := hg 1 rfl; have q2 := hg 2 rfl; simp (disch := first | decide | omega | (simp only [nx]; first | done | omega)) only [go_sem, Nat.reduceMul] at q1 q2; clear hg; have hn' := hn; try simp only [add_next, set_next, grow_next, leave_next, drop_next] at hn')
    by_cases hlt : i < v.ids.length
    · have b1 : decide ((i : Int) < (v.ids.length : Int)) = true := by simp; omega
      have w1 : IntKind.i64.wrap ((i : Int) + 1) = ((i + 1 : Nat) : Int) := IntWalk.i64_in _ ⟨by omega, by omega⟩
      by_cases hx : v.ids[i] = x
      · have b2 : ((v.ids[i] : Int) == (x : Int)) = true := by simp [hx]
        (simp (disch := first | decide | omega | (simp only [nx]; first | done | omega)) only [go_sem, Nat.reduceMul, q1, q2, q5, b1, b6, b2, u64D, uv]; (repeat (with_reducible refine And.intro (by first | omega | assumption | rfl) ?_)))
        refine ⟨?_, (by (repeat' first | assumption | exact St.Sub.refl _ | exact RowOk.sub (by assumption) (by assumption) | refine St.Sub.trans ?_ (RowOk.sub (by assumption) (by assumption)) | refine St.Sub.add ?_ ?_ _ | refine St.Sub.set ?_ ?_ ?_ _ | refine St.Sub.keep ?_ ?_ | refine St.WF.leave ?_ _ | refine St.WF.add ?_ _ | refine St.WF.set ?_ ?_ _ | refine St.WF.grow ?_ _ _ _ | refine St.WF.keep ?_ ?_ | (first | omega | (simp only [RowOk.lo, nx]; first | done | omega))))⟩
        rw [elemI, if_pos h6, ixI_first hlt hx fun j hj => hno j (by omega) hj]
        rfl
      · have b2 : ((v.ids[i] : Int) == (x : Int)) = false := by simp; omega
        (simp (disch := first | decide | omega | (simp only [nx]; first | done | omega)) only [go_sem, Nat.reduceMul, q1, q2, q5, b1, b6, b2, w1, u64D, uv]; (repeat (with_reducible refine And.intro (by first | omega | assumption | rfl) ?_)))
        (refine ⟨by omega, (by (repeat' first | assumption | exact St.Sub.refl _ | exact RowOk.sub (by assumption) (by assumption) | refine St.Sub.trans ?_ (RowOk.sub (by assumption) (by assumption)) | refine St.Sub.add ?_ ?_ _ | refine St.Sub.set ?_ ?_ ?_ _ | refine St.Sub.keep ?_ ?_ | refine St.WF.leave ?_ _ | refine St.WF.add ?_ _ | refine St.WF.set ?_ ?_ _ | refine St.WF.grow ?_ _ _ _ | refine St.WF.keep ?_ ?_ | (first | omega | (simp only [RowOk.lo, nx]; first | done | omega)))), ?_⟩; refine ⟨by omega, ?_, ?_⟩; all_goals (try (first | (simp (disch := first | decide | omega | (simp only [nx]; first | done | omega)) only [go_sem, Nat.reduceMul, w1]; first | done | rfl) | rfl)))
        intro j hj hji
        by_cases e : j = i
        · subst e; exact hx
        · exact hno j hj (by omega)
    · have b1 : decide ((i : Int) < (v.ids.length : Int)) = false := by simp; omega
      (simp (disch := first | decide | omega | (simp only [nx]; first | done | omega)) only [go_sem, Nat.reduceMul, q1, q2, q5, b1]; (repeat (with_reducible refine And.intro (by first | omega | assumption | rfl) ?_)))
      refine ⟨?_, (by (repeat' first | assumption | exact St.Sub.refl _ | exact RowOk.sub (by assumption) (by assumption) | refine St.Sub.trans ?_ (RowOk.sub (by assumption) (by assumption)) | refine St.Sub.add ?_ ?_ _ | refine St.Sub.set ?_ ?_ ?_ _ | refine St.Sub.keep ?_ ?_ | refine St.WF.leave ?_ _ | refine St.WF.add ?_ _ | refine St.WF.set ?_ ?_ _ | refine St.WF.grow ?_ _ _ _ | refine St.WF.keep ?_ ?_ | (first | omega | (simp only [RowOk.lo, nx]; first | done | omega))))⟩
      rw [elemI, if_pos h6, ixI_none fun j hj => hno j hj (by omega)]
      rfl
  · have b6 : (v.kind == 6) = false := by simp [h6]
    (refine dloop_st (fun t => List.contains [4, 5, 6, 7, 8, 9, 10, 11, 12, 13, 14, 15, 16, 17, 18, 19, 20, 21, 22, 23, 24, 25] t) (by kernel_rfl) ?_ (v.ids.length) (fun i f => i ≤ v.ids.length ∧ f 5 = .v (.int .i64 (i : Nat))) ?_ ?_; (exact (by (repeat' first | assumption | refine St.WF.leave ?_ _ | refine St.WF.add ?_ _ | refine St.WF.set ?_ ?_ _ | refine St.WF.grow ?_ _ _ _ | refine St.WF.keep ?_ ?_ | (first | omega | (simp only [RowOk.lo, nx]; first | done | omega))))); (exact ⟨(by omega), (by (first | (simp (disch := first | decide | omega | (simp only [nx]; first | done | omega)) only [go_sem, Nat.reduceMul]; first | done | rfl) | rfl))⟩); intro i g tn hn hT hg hI; obtain ⟨le, q5⟩ := hI; have q1 := hg 1 rfl; have q2 := hg 2 rfl; simp (disch := first | decide | omega | (simp only [nx]; first | done | omega)) only [go_sem, Nat.reduceMul] at q1 q2; clear hg; have hn' := hn; try simp only [add_next, set_next, grow_next, leave_next, drop_next] at hn')
    by_cases hlt : i < v.ids.length
    · have b1 : decide ((i : Int) < (v.ids.length : Int)) = true := by simp; omega
      (simp (disch := first | decide | omega | (simp only [nx]; first | done | omega)) only [go_sem, Nat.reduceMul, q1, q2, q5, b1, b6]; (repeat (with_reducible refine And.intro (by first | omega | assumption | rfl) ?_)))
      refine ⟨?_, (by (repeat' first | assumption | exact St.Sub.refl _ | exact RowOk.sub (by assumption) (by assumption) | refine St.Sub.trans ?_ (RowOk.sub (by assumption) (by assumption)) | refine St.Sub.add ?_ ?_ _ | refine St.Sub.set ?_ ?_ ?_ _ | refine St.Sub.keep ?_ ?_ | refine St.WF.leave ?_ _ | refine St.WF.add ?_ _ | refine St.WF.set ?_ ?_ _ | refine St.WF.grow ?_ _ _ _ | refine St.WF.keep ?_ ?_ | (first | omega | (simp only [RowOk.lo, nx]; first | done | omega))))⟩
      rw [elemI, if_neg h6]
      rfl
    · have b1 : decide ((i : Int) < (v.ids.length : Int)) = false := by simp; omega
      (simp (disch := first | decide | omega | (simp only [nx]; first | done | omega)) only [go_sem, Nat.reduceMul, q1, q2, q5, b1]; (repeat (with_reducible refine And.intro (by first | omega | assumption | rfl) ?_)))
      refine ⟨?_, (by (repeat' first | assumption | exact St.Sub.refl _ | exact RowOk.sub (by assumption) (by assumption) | refine St.Sub.trans ?_ (RowOk.sub (by assumption) (by assumption)) | refine St.Sub.add ?_ ?_ _ | refine St.Sub.set ?_ ?_ ?_ _ | refine St.Sub.keep ?_ ?_ | refine St.WF.leave ?_ _ | refine St.WF.add ?_ _ | refine St.WF.set ?_ ?_ _ | refine St.WF.grow ?_ _ _ _ | refine St.WF.keep ?_ ?_ | (first | omega | (simp only [RowOk.lo, nx]; first | done | omega))))⟩
      rw [elemI, if_neg h6]
      rfl
end Go.Proofs.Ytjjhjhjphhpeiaa

namespace Go.Proofs.Ytjjhjhjphhpeiaa
open Go.RowKit
set_option linter.unusedSimpArgs false
set_option linter.unusedVariables false
theorem uHas_d (own : Own) (l : List Nat) (x : Nat) (hn : l.length ≤ 140737488351232) : DPure Try.prog 109 [.sl own (l.map u64D), .v (uv x)] (.v (.bool (decide (x ∈ l)))) :=
  dpure_of_gives (fun _ _ => by kernel_rfl) fun w η X vs hr => by
    simp only [RepL] at hr
    obtain ⟨y, ys, rfl, h1, z, zs, rfl, h2, rfl⟩ := hr
    obtain ⟨A, c, rfl, hc, hf⟩ := scalars_of_rep uv h1
    simp only [Rep] at h2
    subst h2
    exact (uContains_calls l x A c w hf hn).mono fun e w' ⟨he, hw⟩ => ⟨he, hw ▸ Below.refl _ _⟩
theorem closed_path (l : List DStp) : (D.sl .no (l.map encP)).closed := by
  simp only [D.closed, D.all, Own.all, true_and]
  refine allL_iff.2 fun d hd => ?_
  obtain ⟨p, _, rfl⟩ := List.mem_map.1 hd
  simp [encP, D.all, allL, strD, u64D]
set_option maxRecDepth 200000 in
set_option maxHeartbeats 4000000 in
theorem behind_d (own : Own) (l : List DStp) (p : DStp) (hl : l.length ≤ 1000000) : DPure Try.prog 83 [.sl own (l.map encP), encP p] (.sl .no ((l ++ [p]).map encP)) := by
  refine dpure_of_dwp mixed Try.func83 rfl (fun _ _ => by kernel_rfl) (rs := [.tmp 4]) rfl (by kernel_rfl) (closed_path _) (fun S hS => ?_)
  (simp (disch := first | decide | omega | (simp only [nx]; first | done | omega)) only [go_sem, Nat.reduceMul]; (repeat (with_reducible refine And.intro (by first | omega | assumption | rfl) ?_)))
  refine ddraw_mk 4 (by kernel_rfl) ?_
  (simp (disch := first | decide | omega | (simp only [nx]; first | done | omega)) only [go_sem, Nat.reduceMul]; (repeat (with_reducible refine And.intro (by first | omega | assumption | rfl) ?_)))
  refine dqgo_mk (clip_d own l (by omega)) ?_
  (simp (disch := first | decide | omega | (simp only [nx]; first | done | omega)) only [go_sem, Nat.reduceMul]; (repeat (with_reducible refine And.intro (by first | omega | assumption | rfl) ?_)))
  refine dapp_row ?_
  have he : elT Try.prog 44 = some 78 := by kernel_rfl
  have hb : bytesOf Try.prog 78 = 24 := by kernel_rfl
  have hz : zeroT Try.prog 78 = true := by kernel_rfl
  simp only [dappend, he, hz, hb, List.length_map, true_and, Option.isSome_some, List.length_cons, List.length_nil]
  refine ⟨wPs l, fun d hd => wPs [p] d (by simpa using hd), by omega, by omega, ?_⟩
  (simp (disch := first | decide | omega | (simp only [nx]; first | done | omega)) only [go_sem, Nat.reduceMul]; (repeat (with_reducible refine And.intro (by first | omega | assumption | rfl) ?_)))
  refine ⟨?_, (by (repeat' first | assumption | exact St.Sub.refl _ | exact RowOk.sub (by assumption) (by assumption) | refine St.Sub.trans ?_ (RowOk.sub (by assumption) (by assumption)) | refine St.Sub.add ?_ ?_ _ | refine St.Sub.set ?_ ?_ ?_ _ | refine St.Sub.keep ?_ ?_ | refine St.WF.leave ?_ _ | refine St.WF.add ?_ _ | refine St.WF.set ?_ ?_ _ | refine St.WF.grow ?_ _ _ _ | refine St.WF.keep ?_ ?_ | (first | omega | (simp only [RowOk.lo, nx]; first | done | omega))))⟩
  rw [show l.map encP ++ [encP p] = (l ++ [p]).map encP by simp]
  simp only [D.frz, frz_mapPk]
/-- A slice of numbers that grows in a variable; whose variables lie behind those of a state. -/
def NowAt (lo : Nat) (l : List Nat) (d : D) (T : St) : Prop := (l = [] ∧ d = .sl .full []) ∨ ∃ k c zs, d = .win k 0 l.length c ∧ T.ob k = some (ownOb 24 (l.map u64D) zs c) ∧ (flat (l.map u64D) ++ zs).length = c * 1 ∧ lo ≤ k ∧ k < T.next ∧ 0 < c
/-- All but this slice's variable stays. -/
structure Gw (lo : Nat) (T T' : St) : Prop where
  next : T.next ≤ T'.next
  low : ∀ j o, j < lo → T.ob j = some o → T'.ob j = some o
  row : ∀ j t n, T.ob j = some (.row t n) → T'.ob j = some (.row t n)
theorem Gw.trans {lo : Nat} {A B C : St} (h : Gw lo A B) (g : Gw lo B C) : Gw lo A C := ⟨Nat.le_trans h.next g.next, fun j o hj e => g.low j o hj (h.low j o hj e), fun j t n e => g.row j t n (h.row j t n e)⟩
theorem NowAt.fr {lo k : Nat} {l : List Nat} {d : D} {S T : St} (h : NowAt lo l d S) (hk : k < lo) (hf : MFr k S T) : NowAt lo l d T := by
  rcases h with h | ⟨j, c, zs, h1, h2, h3, h4, h5, h6⟩
  · exact .inl h
  · refine .inr ⟨j, c, zs, h1, ?_, h3, h4, Nat.lt_of_lt_of_le h5 hf.next, h6⟩
    rw [ownOb_box h6] at h2 ⊢
    exact hf.box j _ _ (by omega) h2
theorem wUl (l : List Nat) : ∀ d ∈ l.map u64D, d.width = 1 := fun d hd => by obtain ⟨x, _, rfl⟩ := List.mem_map.1 hd; rfl
theorem MAt.gw {lo k : Nat} {l : List DOp} {T T' : St} (h : MAt k l T) (hk : k < lo) (hg : Gw lo T T') : MAt k l T' := by
  obtain ⟨own, h1, h2⟩ := h
  refine ⟨own, hg.low _ _ hk h1, ?_⟩
  rcases h2 with h2 | ⟨g, h2, h3, h4⟩
  · exact .inl h2
  · exact .inr ⟨g, h2, h3, hg.row _ _ _ h4⟩
theorem MFr.gw {k : Nat} {S T T' : St} (h : MFr k S T) (hS : S.WF) (hg : Gw S.next T T') : MFr k S T' := ⟨Nat.le_trans h.next hg.next, fun j o hj e => hg.low j o (hS.lt e) (h.ob j o hj e)⟩
theorem gw_drop {lo k : Nat} {T : St} {o : Ob} {t : TypeId} {cs : List D} (hT : T.WF) (hk : T.ob k = some (.box t cs)) (hlo : lo ≤ k) : Gw lo T ((T.drop k).add o) := by
  have hne : ∀ j o', T.ob j = some o' → j ≠ k → ((T.drop k).add o).ob j = some o' := fun j o' e hj => by
    have := hT.lt e
    show (if j = (T.drop k).next then _ else (T.drop k).ob j) = _
    rw [if_neg (by show j ≠ T.next; omega)]
    show (if j = k then _ else T.ob j) = _
    rw [if_neg hj, e]
  refine ⟨by show T.next ≤ T.next + 1; omega, fun j o' hj e => hne j o' e (by omega), fun j t' n e => hne j _ e fun h => ?_⟩
  rw [h, hk] at e; cases e
theorem gw_set {lo k : Nat} {T : St} {o : Ob} {t : TypeId} {cs : List D} (hk : T.ob k = some (.box t cs)) (hlo : lo ≤ k) : Gw lo T (T.set k o) := by
  have hne : ∀ j o', T.ob j = some o' → j ≠ k → (T.set k o).ob j = some o' := fun j o' e hj => by
    show (if j = k then _ else T.ob j) = _
    rw [if_neg hj, e]
  refine ⟨Nat.le_refl _, fun j o' hj e => hne j o' e (by omega), fun j t' n e => hne j _ e fun h => ?_⟩
  rw [h, hk] at e; cases e
theorem gw_add {lo : Nat} {T : St} {o : Ob} (hT : T.WF) : Gw lo T (T.add o) :=
  ⟨by show T.next ≤ T.next + 1; omega, fun j o' _ e => keep_add hT _ j o' e, fun j t n e => keep_add hT _ j _ e⟩
/-- One number more. -/
theorem now_app {lo : Nat} {l : List Nat} {d : D} {T : St} {x : Nat} {o2 : Own} {ty : TypeId} {K : D → St → Prop} (h : NowAt lo l d T) (hT : T.WF) (hlo : lo ≤ T.next) (hl : l.length ≤ 1000000)
    (hK : ∀ d' T', NowAt lo (l ++ [x]) d' T' → Gw lo T T' → T'.WF → K d' T') : dapp Try.prog T 26 26 ty d (.sl o2 [u64D x]) K := by
  have heT : elT Try.prog 26 = some 24 := by kernel_rfl
  have heS : (elT Try.prog 26).isSome = true := by rw [heT]; rfl
  have hsz : szOf Try.prog 24 = 1 := by kernel_rfl
  have hby : bytesOf Try.prog 24 = 8 := by kernel_rfl
  have hzT : zeroT Try.prog 24 = true := by kernel_rfl
  have hzO : zeroOk Try.prog 24 = true := by kernel_rfl
  have hO : OwnD Try.prog T 24 (l.map u64D) d := by
    rcases h with ⟨rfl, rfl⟩ | ⟨k, c, zs, h1, h2, h3, h4, h5, h6⟩
    · exact .inl ⟨rfl, rfl⟩
    · exact .inr ⟨k, c, zs, by rw [List.length_map]; exact h1, h2, by rw [hsz]; exact h3, h5⟩
  refine dapp_ownD heT heS hzT hzO hO (by rw [hsz]; exact wUl l) (es2 := [u64D x]) (by rw [hsz]; exact wUl [x]) (by simp; omega) (by rw [hby]; simp; omega) fun c' zs' h2 => ?_
  rw [hsz] at h2
  have hc' : 0 < c' := by
    rw [List.length_append, flat_append, List.length_append] at h2
    have : (flat [u64D x]).length = 1 := rfl
    omega
  have hmap : l.map u64D ++ [u64D x] = (l ++ [x]).map u64D := by simp
  rw [hmap] at h2 ⊢
  have hln : (l.map u64D).length + [u64D x].length = (l ++ [x]).length := by simp
  rw [hln]
  have hwf : (T.left d).WF := by
    rcases h with ⟨_, rfl⟩ | ⟨k, c, zs, rfl, _⟩
    · exact hT
    · intro j hj
      show (if j = k then none else T.ob j) = none
      split
      · rfl
      · exact hT j hj
  have hnx : (T.left d).next = T.next := by rcases h with ⟨_, rfl⟩ | ⟨k, c, zs, rfl, _⟩ <;> rfl
  refine hK _ _ (.inr ⟨T.next, c', zs', rfl, ?_, h2, hlo, by rw [add_next, hnx]; omega, hc'⟩) ?_ (hwf.add _)
  · rw [add_ob, if_pos hnx.symm]
  · rcases h with ⟨_, rfl⟩ | ⟨k, c, zs, rfl, h2, h3, h4, h5, h6⟩
    · exact gw_add hT
    · rw [ownOb_box h6] at h2
      exact gw_drop hT h2 h4
end Go.Proofs.Ytjjhjhjphhpeiaa

namespace Go.Proofs.Ytjjhjhjphhpeiaa
open Go.RowKit
set_option linter.unusedSimpArgs false
set_option linter.unusedVariables false
theorem map_ins (l : List Nat) (x i : Nat) : (l.map u64D).take i ++ [u64D x] ++ (l.map u64D).drop i = (l.take i ++ [x] ++ l.drop i).map u64D := by simp [List.map_take, List.map_drop]
theorem map_del (l : List Nat) (k : Nat) : (l.map u64D).take k ++ (l.map u64D).drop (k + 1) = (l.take k ++ l.drop (k + 1)).map u64D := by simp [List.map_take, List.map_drop]
set_option maxRecDepth 200000 in
set_option maxHeartbeats 4000000 in
theorem now_ins {lo i x : Nat} {l : List Nat} {d : D} {T : St} {o : Own} (h : NowAt lo l d T) (hT : T.WF) (hlo : lo ≤ T.next) (hi : i ≤ l.length) (hl : l.length ≤ 1000000) :
    DCalls Try.prog 110 [d, .v (.int .i64 i), .sl o [u64D x]] T fun d' T' => NowAt lo (l.take i ++ [x] ++ l.drop i) d' T' ∧ Gw lo T T' := by
  rcases h with ⟨rfl, rfl⟩ | ⟨k, c, zs, rfl, h2, h3, h4, h5, h6⟩
  · have hi0 : i = 0 := by simpa using hi
    subst hi0
    have h10 : (((1 : Nat) : Int) == 0) = false := by decide
    have h00 : (((0 : Nat) : Int) == ((0 : Nat) : Int)) = true := by decide
    refine dcalls_inline mixed Try.func110 rfl (fun _ _ => by kernel_rfl) (rs := [.tmp 6]) rfl (by kernel_rfl) (fun hS => ?_)
    (simp (disch := first | decide | omega | (simp only [nx]; first | done | omega)) only [go_sem, Nat.reduceMul, h10, h00]; (repeat (with_reducible refine And.intro (by first | omega | assumption | rfl) ?_)))
    refine now_app (l := []) (.inl ⟨rfl, rfl⟩) hT hlo (by simp) fun d' T' g1 g2 _ => ?_
    (simp (disch := first | decide | omega | (simp only [nx]; first | done | omega)) only [go_sem, Nat.reduceMul]; (repeat (with_reducible refine And.intro (by first | omega | assumption | rfl) ?_)))
    exact ⟨g1, g2⟩
  · refine ins_u64 (es := l.map u64D) h2 h3 (wUl l) rfl (by rw [List.length_map]; exact hi) (by rw [List.length_map]; omega) h5 (by rw [List.length_map]) fun c' zs' g1 g2 => ?_
    rw [map_ins] at g2 ⊢
    rw [List.length_map] at g1
    have hlen : (l.take i ++ [x] ++ l.drop i).length = l.length + 1 := ins_len l x hi
    rw [ownOb_box h6] at h2
    refine ⟨.inr ⟨T.next, c', zs', by rw [hlen], ?_, g2, hlo, by show T.next < T.next + 1; omega, by omega⟩, gw_drop hT h2 h4⟩
    show (if T.next = T.next then _ else _) = _
    rw [if_pos rfl]
theorem now_del {lo k : Nat} {l : List Nat} {d : D} {T : St} (h : NowAt lo l d T) (hT : T.WF) (hk : k < l.length) (hl : l.length ≤ 1000000) :
    DCalls Try.prog 111 [d, .v (.int .i64 k), .v (.int .i64 (k + 1 : Nat))] T fun d' T' => NowAt lo (l.take k ++ l.drop (k + 1)) d' T' ∧ Gw lo T T' ∧ T'.WF := by
  rcases h with ⟨rfl, rfl⟩ | ⟨j, c, zs, rfl, h2, h3, h4, h5, h6⟩
  · cases hk
  · refine del_u64 (es := l.map u64D) h2 h3 (wUl l) (by rw [List.length_map]; exact hk) (by rw [List.length_map]; omega) (by rw [List.length_map]) fun zs' g1 => ?_
    rw [map_del] at g1 ⊢
    have hlen : (l.take k ++ l.drop (k + 1)).length = l.length - 1 := by simp only [List.length_append, List.length_take, List.length_drop]; omega
    have h2' := h2
    rw [ownOb_box h6] at h2'
    refine ⟨.inr ⟨j, c, zs', by rw [hlen], ?_, g1, h4, h5, h6⟩, gw_set h2' h4, hT.set h5 _⟩
    show (if j = j then _ else _) = _
    rw [if_pos rfl]
theorem now_ix {lo x : Nat} {l : List Nat} {d : D} {T : St} (h : NowAt lo l d T) (hx : x ∈ l) (hl : l.length ≤ 1000000) :
    DCalls Try.prog 36 [d, .v (uv x)] T fun d' T' => d' = .v (.int .i64 ((ixN l x : Nat) : Int)) ∧ T' = T := by
  rcases h with ⟨rfl, rfl⟩ | ⟨j, c, zs, rfl, h2, h3, h4, h5, h6⟩
  · cases hx
  · have hc := ownOb_len (wUl l) (by omega) h3
    rw [List.length_map] at hc
    refine uIndex_w l x (by omega) h2 hc ⟨?_, rfl⟩
    rw [ixI, if_pos hx]
end Go.Proofs.Ytjjhjhjphhpeiaa

namespace Go.Proofs.Ytjjhjhjphhpeiaa
open Go.RowKit
set_option linter.unusedSimpArgs false
set_option linter.unusedVariables false
theorem getV_app : ∀ (p q : List DStp) (v : DVal), getV (p ++ q) v = (getV p v).bind (getV q)
  | [], q, v => rfl
  | p :: ps, q, v => by
    rw [List.cons_append, getV_cons, getV_cons]
    split
    · exact getV_app ps q _
    · rfl
end Go.Proofs.Ytjjhjhjphhpeiaa

namespace Go.Proofs.Ytjjhjhjphhpeiaa
open Go.RowKit
set_option linter.unusedSimpArgs false
set_option linter.unusedVariables false
theorem withParts_same (v : DVal) : v.withParts v.parts = v := by cases v; rfl
end Go.Proofs.Ytjjhjhjphhpeiaa

namespace Go.Proofs.Ytjjhjhjphhpeiaa
open Go.RowKit
set_option linter.unusedSimpArgs false
set_option linter.unusedVariables false
theorem inP_set {v : DVal} {p : DStp} {i : Nat} {y : DVal} : inP (v.withParts (v.parts.set i y)) p ↔ inP v p := by
  have h := place_wp v (v.parts.set i y) (by simp) p
  have hl : (v.withParts (v.parts.set i y)).parts.length = v.parts.length := List.length_set
  unfold inP
  rw [h, hl]
theorem plN_set {v : DVal} {p : DStp} {i : Nat} {y : DVal} : plN (v.withParts (v.parts.set i y)) p = plN v p := by
  unfold plN; rw [place_wp v _ (by simp) p]
theorem inP_lt {v : DVal} {p : DStp} (h : inP v p) : plN v p < v.parts.length := by have := h.1; have := h.2; unfold plN; omega
theorem chV_app (f : DVal → DVal) : ∀ (p q : List DStp) (v : DVal), chV f (p ++ q) v = chV (chV f q) p v
  | [], q, v => rfl
  | p :: ps, q, v => by
    rw [List.cons_append, chV, chV]
    split
    · rw [chV_app f ps q]
    · rfl
/-- What is put stands there. -/
theorem getV_put {y : DVal} : ∀ (p : List DStp) {v x : DVal}, getV p v = some x → getV p (chV (fun _ => y) p v) = some y
  | [], v, x, _ => rfl
  | p :: ps, v, x, h => by
    rw [getV_cons] at h
    split at h
    · rename_i hin
      have hl := inP_lt hin
      rw [getD_at hl] at h
      rw [chV, if_pos hin, getD_at hl, getV_cons, if_pos (inP_set.2 hin), plN_set]
      show getV ps ((v.parts.set (plN v p) _).getD (plN v p) default) = some y
      rw [getD_at (by rw [List.length_set]; exact hl), List.getElem_set_self]
      exact getV_put ps h
    · cases h
/-- What is put twice is put once. -/
theorem chV_twice {f : DVal → DVal} {y : DVal} : ∀ (p : List DStp) {v x : DVal}, getV p v = some x → chV f p (chV (fun _ => y) p v) = chV (fun _ => f y) p v
  | [], v, x, _ => rfl
  | p :: ps, v, x, h => by
    rw [getV_cons] at h
    split at h
    · rename_i hin
      have hl := inP_lt hin
      rw [getD_at hl] at h
      rw [chV.eq_2 (fun _ => y), if_pos hin, getD_at hl, chV, if_pos (inP_set.2 hin), plN_set, chV.eq_2 (fun _ => f y), if_pos hin, getD_at hl]
      show (v.withParts _).withParts (((v.parts.set (plN v p) _)).set (plN v p) (chV f ps ((v.parts.set (plN v p) _).getD (plN v p) default))) = _
      rw [getD_at (by rw [List.length_set]; exact hl), List.getElem_set_self, List.set_set, chV_twice ps h]
      rfl
    · cases h
/-- What stands there, put there. -/
theorem chV_same : ∀ (p : List DStp) {v x : DVal}, getV p v = some x → chV (fun _ => x) p v = v
  | [], v, x, h => by injection h with h; exact h.symm
  | p :: ps, v, x, h => by
    rw [getV_cons] at h
    split at h
    · rename_i hin
      have hl := inP_lt hin
      rw [getD_at hl] at h
      rw [chV, if_pos hin, getD_at hl, chV_same ps h, List.set_getElem_self, withParts_same]
    · cases h
/-- One function in a place, of what stands there. -/
theorem chV_at {f : DVal → DVal} : ∀ (p : List DStp) {v x : DVal}, getV p v = some x → chV f p v = chV (fun _ => f x) p v
  | [], v, x, h => by injection h with h; subst h; rfl
  | p :: ps, v, x, h => by
    rw [getV_cons] at h
    split at h
    · rename_i hin
      have hl := inP_lt hin
      rw [getD_at hl] at h
      rw [chV, if_pos hin, getD_at hl, chV.eq_2 (fun _ => f x), if_pos hin, getD_at hl, chV_at ps h]
    · cases h
end Go.Proofs.Ytjjhjhjphhpeiaa

namespace Go.Proofs.Ytjjhjhjphhpeiaa
open Go.RowKit
set_option linter.unusedSimpArgs false
set_option linter.unusedVariables false
/-- A round over a list's elements: the operations, and the list that is then. -/
def lsRound (f : List DStp → DVal → DVal → List DOp) (p : List DStp) (a b : DVal) (i : Nat) (now : List Nat) : List DOp × List Nat :=
  if b.ids.getD i 0 ∉ a.ids then ([⟨2, p, b.ids.getD i 0, if i = 0 then 0 else b.ids.getD (i - 1) 0, b.parts.getD i default⟩], now.take i ++ [b.ids.getD i 0] ++ now.drop i)
  else if now.getD i 0 ≠ b.ids.getD i 0 then
    (⟨4, p, b.ids.getD i 0, if i = 0 then 0 else b.ids.getD (i - 1) 0, zeroV⟩ :: f (p ++ [([], b.ids.getD i 0)]) (a.parts.getD (ixN a.ids (b.ids.getD i 0)) default) (b.parts.getD i default),
      ((now.take (ixN now (b.ids.getD i 0)) ++ now.drop (ixN now (b.ids.getD i 0) + 1)).take i) ++ [b.ids.getD i 0] ++ (now.take (ixN now (b.ids.getD i 0)) ++ now.drop (ixN now (b.ids.getD i 0) + 1)).drop i)
  else (f (p ++ [([], b.ids.getD i 0)]) (a.parts.getD (ixN a.ids (b.ids.getD i 0)) default) (b.parts.getD i default), now)
def lsDel (p : List DStp) (a b : DVal) : List DOp := (a.ids.filter (fun id => decide (id ∉ b.ids))).map fun id => ⟨3, p, id, 0, zeroV⟩
def lsOps (f : List DStp → DVal → DVal → List DOp) (p : List DStp) (a b : DVal) : Nat → List DOp × List Nat
  | 0 => (lsDel p a b, a.ids.filter (fun id => decide (id ∈ b.ids)))
  | i + 1 => ((lsOps f p a b i).1 ++ (lsRound f p a b i (lsOps f p a b i).2).1, (lsRound f p a b i (lsOps f p a b i).2).2)
/-- The operations between two values of one type. -/
noncomputable def dOps : Nat → List DStp → DVal → DVal → List DOp
  | 0, _, _, _ => []
  | k + 1, p, a, b => if eqB a b = true then []
    else if a.kind = 5 then (List.range a.names.length).flatMap fun i => dOps k (p ++ [(a.names.getD i [], 0)]) (a.parts.getD i default) (b.parts.getD i default)
    else if a.kind = 6 then (lsOps (dOps k) p a b b.ids.length).1
    else [⟨1, p, 0, 0, b⟩]
theorem GV.right {v : DVal} {s : DSch} (h : GV v s) (hd : s.depth ≤ 5) : rightV 5 v = true := by
  have h1 := GV.depth s.depth (Nat.le_refl _) h
  have h2 := (h.sound v.depth).1
  rw [right_soundV 5 v v.depth (Nat.le_refl _), h2, decide_eq_true (by omega)]; rfl
/-- What a place in a value that fits is. -/
structure At (s : DSch) (v : DVal) (p : List DStp) (t : DSch) (a : DVal) : Prop where
  rs : rightS 5 s = true
  gv : GV v s
  ty : typS p s = some t
  get : getV p v = some a
  rp : p.all fineB = true
theorem At.ga {s : DSch} {v : DVal} {p : List DStp} {t : DSch} {a : DVal} (h : At s v p t a) : GV a t ∧ RS t ∧ t.depth + p.length ≤ s.depth := GV.get p h.gv (RS.of_top h.rs).1 h.ty h.get
theorem At.depth {s : DSch} {v : DVal} {p : List DStp} {t : DSch} {a : DVal} (h : At s v p t a) : t.depth + p.length ≤ 5 := by
  have := (RS.of_top h.rs).2
  have := h.ga.2.2
  omega
theorem At.right {s : DSch} {v : DVal} {p : List DStp} {t : DSch} {a : DVal} (h : At s v p t a) : rightP p = true := by
  have := h.depth
  rw [rightP, h.rp, decide_eq_true (by omega)]; rfl
theorem At.top {s : DSch} {v : DVal} {p : List DStp} {t : DSch} {a : DVal} (h : At s v p t a) : rightS 5 t = true := rightS_of h.ga.2.1 (by have := h.depth; omega)
theorem At.put {s : DSch} {v : DVal} {p : List DStp} {t : DSch} {a b : DVal} (h : At s v p t a) (hb : GV b t) : At s (chV (fun _ => b) p v) p t b :=
  ⟨h.rs, GV.put p h.gv (RS.of_top h.rs).1 h.ty h.get hb, h.ty, getV_put p h.get, h.rp⟩
/-- One operation in a place: it fits, and this is what it makes. -/
theorem At.op {s : DSch} {v : DVal} {p : List DStp} {t : DSch} {a : DVal} (h : At s v p t a) {o : DOp} (hp : o.path = p) (hr : rightO o = true) (hf : fitO o t = true) : chkO o s = 0 ∧ apS s v o = chV (fun _ => mdV o a) p v := by
  have hc : chkO o s = 0 := by rw [chkO, if_pos ⟨hr, h.rs⟩, hp, h.ty]; simp [hf]
  refine ⟨hc, ?_⟩
  rw [apS, if_pos hc, apV, hp, h.get]
theorem At.set {s : DSch} {v : DVal} {p : List DStp} {t : DSch} {a b : DVal} (h : At s v p t a) (hb : GV b t) : chkO ⟨1, p, 0, 0, b⟩ s = 0 ∧ apS s v ⟨1, p, 0, 0, b⟩ = chV (fun _ => b) p v := by
  have hd := h.depth
  have hr : rightO ⟨1, p, 0, 0, b⟩ = true := by
    rw [rightO, if_pos rfl, h.right, hb.right (by omega)]; rfl
  have hf : fitO ⟨1, p, 0, 0, b⟩ t = true := by
    rw [fitO, if_pos rfl]; exact fitsTop_iff.2 ⟨h.top, hb⟩
  have := h.op (o := ⟨1, p, 0, 0, b⟩) rfl hr hf
  rwa [mdV, if_pos rfl] at this
end Go.Proofs.Ytjjhjhjphhpeiaa

namespace Go.Proofs.Ytjjhjhjphhpeiaa
open Go.RowKit
set_option linter.unusedSimpArgs false
set_option linter.unusedVariables false
section
variable {s t : DSch} {v a b x : DVal} {p : List DStp} {id after : Nat}
theorem rightO_del (h : At s v p t a) (hi : id ≠ 0) : rightO ⟨3, p, id, 0, zeroV⟩ = true := by
  rw [rightO, if_neg (by simp), if_neg (by simp), if_pos rfl, h.right, eqB_true rfl, decide_eq_true hi]; rfl
theorem rightO_move (h : At s v p t a) (hi : id ≠ 0) (ha : id ≠ after) : rightO ⟨4, p, id, after, zeroV⟩ = true := by
  rw [rightO, if_neg (by simp), if_neg (by simp), if_neg (by simp), if_pos rfl, h.right, eqB_true rfl, decide_eq_true hi]
  rw [decide_eq_true (show (DOp.mk 4 p id after zeroV).id ≠ (DOp.mk 4 p id after zeroV).after from ha)]; rfl
theorem rightO_ins (h : At s v p t a) (hi : id ≠ 0) (ha : id ≠ after) (hx : rightV 5 x = true) : rightO ⟨2, p, id, after, x⟩ = true := by
  rw [rightO, if_neg (by simp), if_pos rfl, h.right, decide_eq_true hi]
  rw [decide_eq_true (show (DOp.mk 2 p id after x).id ≠ (DOp.mk 2 p id after x).after from ha)]
  show (true && ((true && true) && rightV 5 x)) = true
  rw [hx]; rfl
theorem At.del (h : At s v p t a) (h6 : t.kind = 6) (hi : id ∈ a.ids) : chkO ⟨3, p, id, 0, zeroV⟩ s = 0 ∧ apS s v ⟨3, p, id, 0, zeroV⟩ = chV (fun _ => tkV a (ixN a.ids id)) p v := by
  have hl := h.ga.1.list h6
  have h0 : id ≠ 0 := fun e => hl.zero (e ▸ hi)
  have := h.op (o := ⟨3, p, id, 0, zeroV⟩) rfl (rightO_del h h0) (by rw [fitO, if_neg (by simp), if_pos h6, if_neg (by simp)])
  rw [mdV, if_neg (by simp), lsV, if_neg (by simp), if_neg (by simpa using hi), if_neg (by simp)] at this
  exact this
theorem At.move (h : At s v p t a) (h6 : t.kind = 6) (hi : id ∈ a.ids) (ha : id ≠ after) : chkO ⟨4, p, id, after, zeroV⟩ s = 0 ∧ apS s v ⟨4, p, id, after, zeroV⟩ = chV (fun _ => plV (tkV a (ixN a.ids id)) id after (a.parts.getD (ixN a.ids id) default)) p v := by
  have hl := h.ga.1.list h6
  have h0 : id ≠ 0 := fun e => hl.zero (e ▸ hi)
  have := h.op (o := ⟨4, p, id, after, zeroV⟩) rfl (rightO_move h h0 ha) (by rw [fitO, if_neg (by simp), if_pos h6, if_neg (by simp)])
  rw [mdV, if_neg (by simp), lsV, if_neg (by simp), if_neg (by simpa using hi), if_pos rfl] at this
  exact this
theorem At.ins (h : At s v p t a) (h6 : t.kind = 6) (hi : id ∉ a.ids) (h0 : id ≠ 0) (ha : id ≠ after) (h12 : a.ids.length < 12) (hx : GV x (t.parts.getD 0 default)) : chkO ⟨2, p, id, after, x⟩ s = 0 ∧ apS s v ⟨2, p, id, after, x⟩ = chV (fun _ => plV a id after x) p v := by
  have hd := h.depth
  have hp := h.ga.2.1.here.2 h6
  have hp0 : 0 < t.parts.length := by omega
  have hd0 := DSch.depth_part (List.getElem_mem hp0)
  have hx' := hx
  rw [getD_at hp0] at hx'
  have hRt : RS t.parts[0] := h.ga.2.1.part (List.getElem_mem hp0)
  have hft : fitsTop x (t.parts.getD 0 default) = true := by
    rw [getD_at hp0]; exact fitsTop_iff.2 ⟨rightS_of hRt (by omega), hx'⟩
  have := h.op (o := ⟨2, p, id, after, x⟩) rfl (rightO_ins h h0 ha (hx'.right (by omega))) (by rw [fitO, if_neg (by simp), if_pos h6, if_pos rfl]; exact hft)
  rw [mdV, if_neg (by simp), lsV, if_pos rfl, if_pos ⟨hi, h12⟩] at this
  exact this
/-- A part of what stands in a place. -/
theorem At.sub (h : At s v p t a) {q : DStp} {u : DSch} (hq : stepT t q = some u) (hin : inP a q) (hf : fineB q = true) : ∃ hi : plN a q < a.parts.length, At s v (p ++ [q]) u a.parts[plN a q] ∧ ∀ y, chV (fun _ => y) (p ++ [q]) v = chV (fun _ => a.withParts (a.parts.set (plN a q) y)) p v := by
  have hi := inP_lt hin
  refine ⟨hi, ⟨h.rs, h.gv, ?_, ?_, ?_⟩, fun y => ?_⟩
  · rw [typS_app, h.ty]
    show typS [q] t = some u
    rw [typS_cons, hq]; rfl
  · rw [getV_app, h.get]
    show getV [q] a = some a.parts[plN a q]
    rw [getV_cons, if_pos hin, getD_at hi]; rfl
  · rw [List.all_append, h.rp]; simp [hf]
  · rw [chV_app, chV_at p h.get]
    congr 1
    funext _
    rw [chV, if_pos hin]; rfl
end
end Go.Proofs.Ytjjhjhjphhpeiaa

namespace Go.Proofs.Ytjjhjhjphhpeiaa
open Go.RowKit
set_option linter.unusedSimpArgs false
set_option linter.unusedVariables false
/-- Operations that fit lead from one value to another one. -/
structure Leads (s : DSch) (v : DVal) (l : List DOp) (w : DVal) : Prop where
  fit : ∀ o ∈ l, chkO o s = 0
  ends : l.foldl (apS s) v = w
theorem Leads.nil (s : DSch) (v : DVal) : Leads s v [] v := ⟨fun o h => (by cases h), rfl⟩
theorem Leads.app {s : DSch} {v w u : DVal} {l m : List DOp} (h : Leads s v l w) (g : Leads s w m u) : Leads s v (l ++ m) u :=
  ⟨fun o ho => (List.mem_append.1 ho).elim (h.fit o) (g.fit o), by rw [List.foldl_append, h.ends, g.ends]⟩
theorem Leads.one {s : DSch} {v w : DVal} {o : DOp} (h : chkO o s = 0 ∧ apS s v o = w) : Leads s v [o] w :=
  ⟨fun q hq => by rw [List.mem_singleton] at hq; subst hq; exact h.1, h.2⟩
/-- What is to be shown of all values of a depth. -/
def LeadAt (k : Nat) : Prop := ∀ (s t : DSch) (v a b : DVal) (p : List DStp), a.depth ≤ k → At s v p t a → GV b t → Leads s v (dOps k p a b) (chV (fun _ => b) p v)
/-- A record, so many fields the other one's. -/
def mixR (a b : DVal) (i : Nat) : DVal := a.withParts (b.parts.take i ++ a.parts.drop i)
theorem mixR_zero (a b : DVal) : mixR a b 0 = a := by unfold mixR; rw [List.take_zero, List.drop_zero, List.nil_append, withParts_same]
theorem mixR_len {a b : DVal} (h : b.parts.length = a.parts.length) {i : Nat} (hi : i ≤ a.parts.length) : (mixR a b i).parts.length = a.parts.length := by
  show (b.parts.take i ++ a.parts.drop i).length = _
  rw [List.length_append, List.length_take, List.length_drop]; omega
theorem mixR_succ {a b : DVal} (h : b.parts.length = a.parts.length) {i : Nat} (hi : i < a.parts.length) : (mixR a b i).withParts ((mixR a b i).parts.set i (b.parts.getD i default)) = mixR a b (i + 1) := by
  have hib : i < b.parts.length := by omega
  show a.withParts ((b.parts.take i ++ a.parts.drop i).set i (b.parts.getD i default)) = a.withParts _
  have hl : (b.parts.take i).length = i := by rw [List.length_take]; omega
  rw [List.set_append_right _ _ (by omega), hl, Nat.sub_self, List.drop_eq_getElem_cons hi, List.set_cons_zero, getD_at hib, List.take_succ_eq_append_getElem hib, List.append_assoc]
  rfl
theorem mixR_at {a b : DVal} (h : b.parts.length = a.parts.length) {i : Nat} (hi : i < a.parts.length) : (mixR a b i).parts.getD i default = a.parts.getD i default := by
  show (b.parts.take i ++ a.parts.drop i).getD i default = _
  have hl : (b.parts.take i).length = i := by rw [List.length_take]; omega
  rw [getD_at (show i < (b.parts.take i ++ a.parts.drop i).length by rw [List.length_append, List.length_drop]; omega), getD_at hi, List.getElem_append_right (by omega)]
  simp [hl]
theorem GV.mix {a b : DVal} {t : DSch} (ha : GV a t) (hb : GV b t) (h : b.parts.length = a.parts.length) : ∀ i, i ≤ a.parts.length → GV (mixR a b i) t
  | 0, _ => by rw [mixR_zero]; exact ha
  | i + 1, hi => by
    have ih := GV.mix ha hb h i (by omega)
    have hl := mixR_len h (i := i) (by omega)
    rw [← mixR_succ h (by omega)]
    refine ih.set (by omega) ?_
    rw [getD_at (by omega)]
    exact hb.part (by omega)
/-- What a record that fits is. -/
structure GRec (v : DVal) (t : DSch) : Prop where
  kind : v.kind = 5
  n : v.n = 0
  s : v.s = []
  names : v.names = t.words
  ids : v.ids = []
  len : v.parts.length = v.names.length
theorem GV.recd {v : DVal} {t : DSch} (h : GV v t) (h5 : t.kind = 5) : GRec v t := by
  obtain ⟨b1, b2, b3, b4⟩ := here_parts h.here_
  have hk : v.kind = 5 := h.kind.trans h5
  unfold bad1 at b1
  unfold bad2 at b2
  have hn : v.names = t.words := by
    have := h.head
    rw [headF, Bool.and_eq_true, Bool.and_eq_true] at this
    have h2 := this.2.2
    rw [decide_eq_true (by omega : v.kind = 5)] at h2
    simpa using h2
  exact ⟨hk, by omega, List.eq_nil_of_length_eq_zero (by omega), hn, List.eq_nil_of_length_eq_zero (by omega), by omega⟩
theorem mixR_end {a b : DVal} {t : DSch} (ha : GV a t) (hb : GV b t) (h5 : t.kind = 5) : mixR a b a.parts.length = b := by
  have h1 := ha.recd h5
  have h2 := hb.recd h5
  have hl : b.parts.length = a.parts.length := by rw [h1.len, h2.len, h1.names, h2.names]
  unfold mixR
  rw [List.drop_length, List.append_nil, ← hl, List.take_length]
  obtain ⟨bk, bn, bs, bns, bis, bps⟩ := b
  have e1 := h2.kind; have e2 := h2.n; have e3 := h2.s; have e4 := h2.names; have e5 := h2.ids
  simp only [DVal.kind, DVal.n, DVal.s, DVal.names, DVal.ids] at e1 e2 e3 e4 e5
  subst e1 e2 e3 e4 e5
  show DVal.mk a.kind a.n a.s a.names a.ids bps = _
  rw [h1.kind, h1.n, h1.s, h1.names, h1.ids]
/-- The step to a field. -/
theorem field_step {a : DVal} {t : DSch} (ha : GV a t) (ht : RS t) (h5 : t.kind = 5) {i : Nat} (hi : i < a.parts.length) : ∃ u, stepT t (a.names.getD i [], 0) = some u ∧ inP a (a.names.getD i [], 0) ∧ plN a (a.names.getD i [], 0) = i ∧ fineB (a.names.getD i [], 0) = true := by
  have h1 := ha.recd h5
  have hin : i < a.names.length := by have := h1.len; omega
  have hs := place_step ha.rv hi
  have hst : stepV a i = (a.names.getD i [], 0) := by
    unfold stepV
    rw [if_pos h1.kind]
  rw [hst] at hs
  obtain ⟨b1, b2, b3, b4⟩ := here_parts ha.here_
  have hr := List.all_eq_true.1 b3 i (List.mem_range.2 hin)
  have hnm : nameB (a.names.getD i []) = true := by
    unfold riseOk at hr
    exact ((Bool.and_eq_true _ _).mp hr).1
  have hne : a.names.getD i [] ≠ [] := fun e => by rw [e] at hnm; exact absurd hnm (by decide)
  have hmem : a.names.getD i [] ∈ t.words := by
    rw [← h1.names, getD_at hin]; exact List.getElem_mem hin
  have hw : wholeS t = true := by
    have := ht.here.1 h5
    simp only [wholeS, Bool.and_eq_true, decide_eq_true_eq]
    omega
  refine ⟨t.parts.getD (ixN t.words (a.names.getD i [])) default, ?_, ⟨by rw [hs]; omega, by rw [hs]; omega⟩, by unfold plN; rw [hs]; simp, ?_⟩
  · rw [stepT, if_neg hne, fieldS, if_pos ⟨hw, hmem⟩]
  · rw [fineB, hnm]; rfl
/-- So many fields. -/
theorem lead_fields {k : Nat} (ih : LeadAt k) {s t : DSch} {v a b : DVal} {p : List DStp} (h5 : t.kind = 5) (hd : a.depth ≤ k + 1) (h : At s v p t a) (hb : GV b t) : ∀ i, i ≤ a.parts.length →
    Leads s v ((List.range i).flatMap fun i => dOps k (p ++ [(a.names.getD i [], 0)]) (a.parts.getD i default) (b.parts.getD i default)) (chV (fun _ => mixR a b i) p v)
  | 0, _ => by rw [mixR_zero, chV_same p h.get]; exact Leads.nil s v
  | i + 1, hi => by
    have ih' := lead_fields ih h5 hd h hb i (by omega)
    obtain ⟨ga, hRt, _⟩ := h.ga
    have h1 := ga.recd h5
    have h2 := hb.recd h5
    have hl : b.parts.length = a.parts.length := by rw [h1.len, h2.len, h1.names, h2.names]
    have gm := GV.mix ga hb hl i (by omega)
    have hml := mixR_len hl (i := i) (by omega)
    have hA := h.put gm
    have hnm : (mixR a b i).names = a.names := rfl
    obtain ⟨u, e1, e2, e3, e4⟩ := field_step gm hRt h5 (i := i) (by omega)
    rw [hnm] at e1 e2 e3 e4
    obtain ⟨hi', hS, hC⟩ := hA.sub e1 e2 e4
    have hpe : (mixR a b i).parts[plN (mixR a b i) (a.names.getD i [], 0)] = a.parts.getD i default := by
      have := mixR_at hl (i := i) (by omega)
      rw [getD_at (by omega)] at this
      simp only [e3]
      exact this
    rw [hpe] at hS
    have hai : i < a.parts.length := by omega
    have hbi : i < b.parts.length := by omega
    have hda : (a.parts.getD i default).depth ≤ k := by
      rw [getD_at hai]
      have := DVal.depth_part (List.getElem_mem hai)
      omega
    have hgb : GV (b.parts.getD i default) u := by
      obtain ⟨_, hu, _⟩ := gm.step hRt e2 e1
      rw [e3] at hu
      rw [← hu, getD_at hbi]
      exact hb.part hbi
    have hL := ih s u _ _ _ _ hda hS hgb
    rw [hC, chV_twice p h.get] at hL
    have e5 : (mixR a b i).withParts ((mixR a b i).parts.set (plN (mixR a b i) (a.names.getD i [], 0)) (b.parts.getD i default)) = mixR a b (i + 1) := by
      rw [e3]; exact mixR_succ hl (by omega)
    rw [e5] at hL
    rw [List.range_succ, List.flatMap_append, List.flatMap_cons, List.flatMap_nil, List.append_nil]
    exact ih'.app hL
theorem lead_rec {k : Nat} (ih : LeadAt k) {s t : DSch} {v a b : DVal} {p : List DStp} (h5 : t.kind = 5) (hd : a.depth ≤ k + 1) (h : At s v p t a) (hb : GV b t) :
    Leads s v ((List.range a.names.length).flatMap fun i => dOps k (p ++ [(a.names.getD i [], 0)]) (a.parts.getD i default) (b.parts.getD i default)) (chV (fun _ => b) p v) := by
  have h1 := h.ga.1.recd h5
  have := lead_fields ih h5 hd h hb a.parts.length (Nat.le_refl _)
  rw [mixR_end h.ga.1 hb h5] at this
  rw [← h1.len]
  exact this
end Go.Proofs.Ytjjhjhjphhpeiaa

namespace Go.Proofs.Ytjjhjhjphhpeiaa
open Go.RowKit
set_option linter.unusedSimpArgs false
set_option linter.unusedVariables false
/-- A list of these numbers, the parts by a function. -/
def aL (a : DVal) (ids : List Nat) (g : Nat → DVal) : DVal := a.ofList ids (ids.map g)
/-- The part of a number. -/
def pOf (a : DVal) (id : Nat) : DVal := a.parts.getD (ixN a.ids id) default
theorem parts_pOf {a : DVal} (hn : a.ids.Nodup) (hl : a.parts.length = a.ids.length) : a.ids.map (pOf a) = a.parts := by
  refine List.ext_getElem (by rw [List.length_map, hl]) fun i h1 h2 => ?_
  rw [List.getElem_map, pOf]
  have hi : i < a.ids.length := by rw [List.length_map] at h1; exact h1
  have : ixN a.ids a.ids[i] = i := idx_of_first hi fun j hj e => by
    exact absurd e (List.pairwise_iff_getElem.1 hn j i (by omega) hi hj)
  rw [this, getD_at h2]
theorem ofList_self' (v : DVal) : v.ofList v.ids v.parts = v := by cases v; rfl
theorem aL_self {a : DVal} (hn : a.ids.Nodup) (hl : a.parts.length = a.ids.length) : aL a a.ids (pOf a) = a := by
  rw [aL, parts_pOf hn hl, ofList_self']
theorem tkV_aL {a : DVal} {ids : List Nat} {g : Nat → DVal} {k : Nat} : tkV (aL a ids g) k = aL a (ids.take k ++ ids.drop (k + 1)) g := by
  show DVal.ofList _ _ _ = DVal.ofList _ _ _
  simp only [aL, DVal.ofList, DVal.ids, DVal.parts, DVal.kind, DVal.n, DVal.s, DVal.names, List.map_append, List.map_take, List.map_drop]
theorem plV_aL {a : DVal} {ids : List Nat} {g : Nat → DVal} {id after : Nat} {x : DVal} (hx : g id = x) : plV (aL a ids g) id after x = aL a (ids.take (plK (aL a ids g) after) ++ [id] ++ ids.drop (plK (aL a ids g) after)) g := by
  subst hx
  show DVal.ofList _ _ _ = DVal.ofList _ _ _
  simp only [aL, DVal.ofList, DVal.ids, DVal.parts, DVal.kind, DVal.n, DVal.s, DVal.names, List.map_append, List.map_take, List.map_drop, List.map_cons, List.map_nil]
theorem aL_congr {a : DVal} {ids : List Nat} {g g' : Nat → DVal} (h : ∀ i ∈ ids, g i = g' i) : aL a ids g = aL a ids g' := by
  unfold aL; rw [List.map_congr_left h]
theorem ix_of {l : List Nat} (hn : l.Nodup) {i : Nat} (hi : i < l.length) : ixN l l[i] = i := idx_of_first hi fun j hj e => absurd e (List.pairwise_iff_getElem.1 hn j i (by omega) hi hj)
/-- Behind the one ahead: where one comes in. -/
theorem plK_at {L : DVal} (hn : L.ids.Nodup) (h0 : 0 ∉ L.ids) {i : Nat} (hi : i ≤ L.ids.length) : plK L (if i = 0 then 0 else L.ids.getD (i - 1) 0) = i := by
  by_cases e : i = 0
  · rw [if_pos e, plK, if_pos rfl, e]
  · rw [if_neg e]
    have hlt : i - 1 < L.ids.length := by omega
    rw [getD_at hlt]
    have hm := List.getElem_mem hlt
    have hz : ¬ L.ids[i - 1] = 0 := fun h => h0 (by rw [← h]; exact hm)
    rw [plK, if_neg hz, if_pos hm, ix_of hn hlt]
    omega
/-- The parts that are the other one's already. -/
def mixG (a b : DVal) (i : Nat) (id : Nat) : DVal := if id ∈ a.ids ∧ id ∉ b.ids.take i then pOf a id else pOf b id
theorem mixG_end {a b : DVal} (hn : b.ids.Nodup) (hl : b.parts.length = b.ids.length) : aL a b.ids (mixG a b b.ids.length) = aL a b.ids (pOf b) :=
  aL_congr fun i hi => by rw [mixG, List.take_length, if_neg (fun h => h.2 hi)]
theorem GV.aL {a : DVal} {t : DSch} (h : GV a t) (ht : RS t) (h6 : t.kind = 6) {ids : List Nat} {g : Nat → DVal} (hn : ids.Nodup) (h0 : 0 ∉ ids) (h12 : ids.length ≤ 12) (hg : ∀ i ∈ ids, GV (g i) (t.parts.getD 0 default)) : GV (aL a ids g) t :=
  h.ofList ht h6 hn h0 h12 (by rw [List.length_map]) fun p hp => by obtain ⟨i, hi, rfl⟩ := List.mem_map.1 hp; exact hg i hi
theorem GV.pOf {a : DVal} {t : DSch} (h : GV a t) (h6 : t.kind = 6) {id : Nat} (hi : id ∈ a.ids) : GV (pOf a id) (t.parts.getD 0 default) := by
  have hl := h.list h6
  have hk : ixN a.ids id < a.parts.length := by rw [hl.len]; exact ix_lt hi
  rw [Go.Proofs.Ytjjhjhjphhpeiaa.pOf, getD_at hk]
  exact hl.parts _ (List.getElem_mem hk)
theorem del_mid (F R : List Nat) (x : Nat) : (F ++ x :: R).take F.length ++ (F ++ x :: R).drop (F.length + 1) = F ++ R := by
  have h1 : (F ++ x :: R).take F.length = F := by simp
  have h2 : (F ++ x :: R).drop (F.length + 1) = R := by
    rw [List.drop_append, List.drop_of_length_le (by omega), List.nil_append, show F.length + 1 - F.length = 1 by omega]; rfl
  rw [h1, h2]
/-- The deletes. -/
theorem lead_dels {s t : DSch} {v a b : DVal} {p : List DStp} (h6 : t.kind = 6) (h : At s v p t a) : ∀ j, j ≤ a.ids.length →
    Leads s v (((a.ids.take j).filter (fun id => decide (id ∉ b.ids))).map fun id => ⟨3, p, id, 0, zeroV⟩) (chV (fun _ => aL a ((a.ids.take j).filter (fun id => decide (id ∈ b.ids)) ++ a.ids.drop j) (pOf a)) p v)
  | 0, _ => by
    have hl := h.ga.1.list h6
    rw [List.take_zero, List.drop_zero, List.filter_nil, List.filter_nil, List.map_nil, List.nil_append, aL_self hl.nodup hl.len, chV_same p h.get]
    exact Leads.nil s v
  | j + 1, hj => by
    have ih := lead_dels (b := b) h6 h j (by omega)
    obtain ⟨ga, hRt, _⟩ := h.ga
    have hl := ga.list h6
    have hlt : j < a.ids.length := by omega
    rw [List.take_succ_eq_append_getElem hlt, List.filter_append, List.filter_append]
    rw [List.drop_eq_getElem_cons hlt] at ih
    by_cases hm : a.ids[j] ∈ b.ids
    · rw [List.filter_cons_of_neg (by simpa using hm), List.filter_nil, List.append_nil, List.filter_cons_of_pos (by simpa using hm), List.filter_nil, List.append_assoc]
      exact ih
    · rw [List.filter_cons_of_pos (by simpa using hm), List.filter_nil, List.filter_cons_of_neg (by simpa using hm), List.filter_nil, List.append_nil, List.map_append, List.map_cons, List.map_nil]
      have hsub : ((a.ids.take j).filter (fun id => decide (id ∈ b.ids)) ++ a.ids[j] :: a.ids.drop (j + 1)).Sublist a.ids := by
        have h1 : a.ids = a.ids.take j ++ a.ids[j] :: a.ids.drop (j + 1) := by rw [← List.drop_eq_getElem_cons hlt, List.take_append_drop]
        conv => rhs; rw [h1]
        exact List.filter_sublist.append (List.Sublist.refl _)
      have hnd := hsub.nodup hl.nodup
      have hgv := ga.aL hRt h6 (g := pOf a) hnd (fun h0 => hl.zero (hsub.subset h0)) (Nat.le_trans hsub.length_le hl.most) (fun i hi => ga.pOf h6 (hsub.subset hi))
      have hA := h.put hgv
      have hin : a.ids[j] ∈ (aL a ((a.ids.take j).filter (fun id => decide (id ∈ b.ids)) ++ a.ids[j] :: a.ids.drop (j + 1)) (pOf a)).ids := List.mem_append_right _ (List.mem_cons_self ..)
      have hD := hA.del h6 hin
      have hix : ixN (aL a ((a.ids.take j).filter (fun id => decide (id ∈ b.ids)) ++ a.ids[j] :: a.ids.drop (j + 1)) (pOf a)).ids a.ids[j] = ((a.ids.take j).filter (fun id => decide (id ∈ b.ids))).length := by
        have := ix_of hnd (i := ((a.ids.take j).filter (fun id => decide (id ∈ b.ids))).length) (by simp; omega)
        rw [List.getElem_append_right (Nat.le_refl _)] at this
        simp only [Nat.sub_self, List.getElem_cons_zero] at this
        exact this
      rw [hix, tkV_aL, chV_twice p h.get, del_mid] at hD
      exact ih.app (Leads.one hD)
end Go.Proofs.Ytjjhjhjphhpeiaa
