/- Texts of a proof, part 8. Conditions: none. -/
import Derived.Test.YtpnjkebjdclkfaaCValRight7
set_option linter.unusedVariables false
set_option linter.unusedSimpArgs false
/- Paths, walked: change. Conditions: none. -/
namespace Go.Proofs.Ytpnjkebjdclkfaa
open Go.RowKit
set_option linter.unusedSimpArgs false
theorem gdS0 (s : DSch) : (encS s).cells.getD 0 undefD = .v (.int .i64 s.kind) := by rw [encS_eq]; exact Eq.trans (Eq.refl _) (Eq.refl _)
theorem gdS1 (s : DSch) : (encS s).cells.getD 1 undefD = .sl .no (s.words.map strD) := by rw [encS_eq]; exact Eq.trans (Eq.refl _) (Eq.refl _)
theorem gdS2 (s : DSch) : (encS s).cells.getD 2 undefD = .sl .no (s.parts.map encS) := by rw [encS_eq]; exact Eq.trans (Eq.refl _) (Eq.refl _)
theorem gdV0 (s : DVal) : (encV s).cells.getD 0 undefD = .v (.int .i64 s.kind) := by rw [encV_eq]; exact Eq.trans (Eq.refl _) (Eq.refl _)
theorem gdV1 (s : DVal) : (encV s).cells.getD 1 undefD = .v (.int .i64 s.n) := by rw [encV_eq]; exact Eq.trans (Eq.refl _) (Eq.refl _)
theorem gdV2 (s : DVal) : (encV s).cells.getD 2 undefD = .v (sv s.s) := by rw [encV_eq]; exact Eq.trans (Eq.refl _) (Eq.refl _)
theorem gdV3 (s : DVal) : (encV s).cells.getD 3 undefD = .sl .no (s.names.map strD) := by rw [encV_eq]; exact Eq.trans (Eq.refl _) (Eq.refl _)
theorem gdV4 (s : DVal) : (encV s).cells.getD 4 undefD = .sl .no (s.ids.map u64D) := by rw [encV_eq]; exact Eq.trans (Eq.refl _) (Eq.refl _)
theorem gdV5 (s : DVal) : (encV s).cells.getD 5 undefD = .sl .no (s.parts.map encV) := by rw [encV_eq]; exact Eq.trans (Eq.refl _) (Eq.refl _)
theorem gdP0 (p : DStp) : (encP p).cells.getD 0 undefD = .v (sv p.1) := Eq.trans (Eq.refl _) (Eq.refl _)
theorem gdP1 (p : DStp) : (encP p).cells.getD 1 undefD = .v (.int .u64 (p.2 : Int)) := Eq.trans (Eq.refl _) (Eq.refl _)
attribute [go_sem] gdS0 gdS1 gdS2 gdV0 gdV1 gdV2 gdV3 gdV4 gdV5 gdP0 gdP1
theorem drop_encS (s : DSch) : (encS s).cells.drop 3 = [] := List.drop_of_length_le (by rw [cells_encS]; omega)
theorem drop_encV (s : DVal) : (encV s).cells.drop 6 = [] := List.drop_of_length_le (by rw [cells_encV]; omega)
theorem take_map_len {α β : Type} (f : α → β) (l : List α) : (l.map f).take l.length = l.map f := List.take_of_length_le (by simp)
theorem allP_eq (l : List DStp) : (∀ d, d ∈ l.map encP → d.cells.length = 2) = True := eq_true fun d hd => by obtain ⟨q, _, rfl⟩ := List.mem_map.1 hd; rfl
attribute [go_sem] drop_encS drop_encV take_map_len allP_eq
def DVal.withParts (v : DVal) (ps : List DVal) : DVal := .mk v.kind v.n v.s v.names v.ids ps
def inP (v : DVal) (p : DStp) : Prop := 0 ≤ placeOf v p ∧ placeOf v p < (v.parts.length : Int)
instance (v : DVal) (p : DStp) : Decidable (inP v p) := inferInstanceAs (Decidable (_ ∧ _))
def plN (v : DVal) (p : DStp) : Nat := (placeOf v p).toNat
/-- What a function makes of what stands at a path's end, in its place. -/
def chV (f : DVal → DVal) : List DStp → DVal → DVal
  | [], v => f v
  | p :: ps, v => if inP v p then v.withParts (v.parts.set (plN v p) (chV f ps (v.parts.getD (plN v p) default))) else v
theorem getV_cons (p : DStp) (ps : List DStp) (v : DVal) : getV (p :: ps) v = if inP v p then getV ps (v.parts.getD (plN v p) default) else none := rfl
/-- What the visitor leaves. -/
def leftS (S : St) : Option Nat → Option DVal → St
  | some c, some u => S.set c (.box 31 (encV u).cells)
  | _, _ => S
theorem leftS_next (S : St) (c : Option Nat) (r : Option DVal) : (leftS S c r).next = S.next := by
  cases c <;> cases r <;> rfl
theorem leftS_ob {S : St} {c : Option Nat} {r : Option DVal} {k : Nat} (h : ∀ j, c = some j → k ≠ j) : (leftS S c r).ob k = S.ob k := by
  cases c with
  | none => cases r <;> rfl
  | some j => cases r with
    | none => rfl
    | some u => exact ob_old (h j rfl)
/-- What the visitor is asked for. -/
def VisOk (g : FuncId) (fs cs : List D) (fV : DVal → DVal) (c : Option Nat) (S : St) : Prop := (∀ j, c = some j → j < S.next) ∧ ∀ S' u, S.Sub S' → S'.WF → u.weight ≤ 1000000 → DCalls Try.prog g (fs ++ [encV u] ++ cs) S' (fun d S'' => d = encV (fV u) ∧ S'' = leftS S' c (some u))
theorem VisOk.sub {g : FuncId} {fs cs : List D} {fV : DVal → DVal} {c : Option Nat} {S T : St} (h : VisOk g fs cs fV c S) (hs : S.Sub T) : VisOk g fs cs fV c T :=
  ⟨fun j hj => Nat.lt_of_lt_of_le (h.1 j hj) hs.next, fun S' u h1 h2 h3 => h.2 S' u (hs.trans h1) h2 h3⟩
theorem leftS_sub {S T : St} (hS : S.WF) (h : S.Sub T) {c : Option Nat} {r : Option DVal} : (leftS S c r).Sub (leftS T c r) := by
  cases c with
  | none => cases r <;> exact h
  | some j => cases r with
    | none => exact h
    | some u =>
      refine ⟨h.next, fun k o hk => ?_⟩
      simp only [leftS, set_ob] at *
      split
      · rename_i e; rw [if_pos e] at hk; exact hk
      · rename_i e; rw [if_neg e] at hk; exact h.ob k o hk
theorem leftS_wf {S : St} (hS : S.WF) {c : Option Nat} (hc : ∀ j, c = some j → j < S.next) (r : Option DVal) : (leftS S c r).WF := by
  cases c with
  | none => cases r <;> exact hS
  | some j => cases r with
    | none => exact hS
    | some u => exact hS.set (hc j rfl) _
theorem fin_left {P : Program} {S T : St} {c : Option Nat} {r : Option DVal} {d d' : D} {K : D → St → Prop} (hS : S.WF) (hc : ∀ j, c = some j → j < S.next) (hT : (leftS S c r).Sub T) (hd : d = d') (hcl : d'.closed) (hK : K d' (leftS S c r)) : DFin S T d K := by
  subst hd
  have hn : (leftS S c r).next = S.next := leftS_next S c r
  refine ⟨d, leftS S c r, DLe.refl _, D.all_mono (fun _ h => h.elim) hcl, hT.next, Nat.le_of_eq hn.symm, fun k o hk => ⟨hT.ob k o hk, (leftS_wf hS hc r).lt hk, fun t cs ho => ?_⟩, hK⟩
  cases c with
  | none => cases r <;> exact .inl hk
  | some j => cases r with
    | none => exact .inl hk
    | some u =>
      simp only [leftS, set_ob] at hk
      split at hk
      · right
        injection hk with hk
        rw [← hk] at ho
        injection ho with _ ho
        rw [← ho]
        exact allL_closed (encV_cells_closed u)
      · exact .inl hk
theorem cells_encP (p : DStp) : (encP p).cells.length = 2 := rfl
theorem agg_encP (p : DStp) : D.agg (encP p).cells = encP p := rfl
theorem take_encP (p : DStp) : (encP p).cells.take 2 = (encP p).cells := rfl
theorem okCell_encP (p : DStp) : (encP p).okCell = true := rfl
theorem take_splice_V (v : DVal) (l : List D) : ((encV v).cells ++ l).take 6 = (encV v).cells := by
  rw [List.take_append, cells_encV, List.take_of_length_le (by rw [cells_encV]; omega)]; simp
attribute [go_sem] cells_encP agg_encP take_encP okCell_encP take_splice_V
theorem closed_res (v : DVal) (b : Bool) : (D.tup [encV v, .v (.bool b)]).closed := by
  simp only [D.closed, D.all, allL, and_true]; exact closed_encV v
set_option maxRecDepth 200000 in
set_option maxHeartbeats 8000000 in

theorem change_d (g : FuncId) (fs cs : List D) (fV : DVal → DVal) (c : Option Nat) : ∀ (ps : List DStp) (own : Own) (v : DVal) (S : St), okV v → v.weight ≤ 1000000 → ps.length ≤ 1000000 → VisOk g fs cs fV c S →
    DCalls Try.prog 67 [encV v, .sl own (ps.map encP), .fn (.func g) fs cs] S (fun d S' => d = .tup [encV (chV fV ps v), .v (.bool (getV ps v).isSome)] ∧ S' = leftS S c (getV ps v)) := by
  intro ps
  induction ps with
  | nil =>
    intro own v S hok hw hl hv
    refine dcalls_of_dwp mixed Try.func67 rfl (fun _ _ => by kernel_rfl) (rs := [.cell 6 31, .tmp 7]) rfl (by kernel_rfl) (fun hS => ?_)
    have hL : ∀ {S1 : St} {r : Option DVal} {k : Nat}, S.next ≤ k → (leftS S1 c r).ob k = S1.ob k := fun h => leftS_ob fun j hj => by have := hv.1 j hj; omega
    (simp (disch := first | decide | omega | (simp only [add_next, set_next, grow_next, leave_next, drop_next, List.length_map, leftS_next]; first | done | omega)) only [go_sem, ↓reduceIte, Nat.reduceBEq, Nat.reduceAdd, Nat.reduceLeDiff, Nat.reduceEqDiff, Nat.reduceLT, Nat.reduceMul]; (repeat (with_reducible refine And.intro (by first | omega | assumption | rfl) ?_)))
    refine (hv.2 _ v (by (repeat' first | assumption | exact St.Sub.refl _ | exact RowOk.sub (by assumption) (by assumption) | refine St.Sub.trans ?_ (RowOk.sub (by assumption) (by assumption)) | refine St.Sub.add ?_ ?_ _ | refine St.Sub.set ?_ ?_ ?_ _ | refine St.Sub.keep ?_ ?_ | refine St.WF.leave ?_ _ | refine St.WF.add ?_ _ | refine St.WF.set ?_ ?_ _ | refine St.WF.grow ?_ _ _ _ | refine St.WF.keep ?_ ?_ | (first | omega | (simp only [RowOk.lo, add_next, set_next, grow_next, leave_next, drop_next]; first | done | omega)))) (by (repeat' first | assumption | refine St.WF.leave ?_ _ | refine St.WF.add ?_ _ | refine St.WF.set ?_ ?_ _ | refine St.WF.grow ?_ _ _ _ | refine St.WF.keep ?_ ?_ | (first | omega | (simp only [RowOk.lo, add_next, set_next, grow_next, leave_next, drop_next]; first | done | omega)))) hw).mono ?_
    rintro d T ⟨rfl, rfl⟩
    (simp (disch := first | decide | omega | (simp only [add_next, set_next, grow_next, leave_next, drop_next, List.length_map, leftS_next]; first | done | omega)) only [go_sem, ↓reduceIte, Nat.reduceBEq, Nat.reduceAdd, Nat.reduceLeDiff, Nat.reduceEqDiff, Nat.reduceLT, Nat.reduceMul, hL, leftS_next]; (repeat (with_reducible refine And.intro (by first | omega | assumption | rfl) ?_)))
    refine DFin.t (fin_left (P := Try.prog) (c := c) (r := some v) hS hv.1 ?_ rfl (closed_res _ _) ?_)
    · refine St.Sub.set (leftS_sub hS (by (repeat' first | assumption | exact St.Sub.refl _ | exact RowOk.sub (by assumption) (by assumption) | refine St.Sub.trans ?_ (RowOk.sub (by assumption) (by assumption)) | refine St.Sub.add ?_ ?_ _ | refine St.Sub.set ?_ ?_ ?_ _ | refine St.Sub.keep ?_ ?_ | refine St.WF.leave ?_ _ | refine St.WF.add ?_ _ | refine St.WF.set ?_ ?_ _ | refine St.WF.grow ?_ _ _ _ | refine St.WF.keep ?_ ?_ | (first | omega | (simp only [RowOk.lo, add_next, set_next, grow_next, leave_next, drop_next]; first | done | omega))))) (leftS_wf hS hv.1 _) ?_ _
      rw [leftS_next]; omega
    · exact ⟨rfl, rfl⟩
  | cons p ps ih =>
    intro own v S hok hw hl hv
    refine dcalls_of_dwp mixed Try.func67 rfl (fun _ _ => by kernel_rfl) (rs := [.cell 6 31, .tmp 7]) rfl (by kernel_rfl) (fun hS => ?_)
    have hL : ∀ {S1 : St} {r : Option DVal} {k : Nat}, S.next ≤ k → (leftS S1 c r).ob k = S1.ob k := fun h => leftS_ob fun j hj => by have := hv.1 j hj; omega
    have b0 : (((ps.length + 1 : Nat) : Int) == 0) = false := by simp; omega
    (simp (disch := first | decide | omega | (simp only [add_next, set_next, grow_next, leave_next, drop_next, List.length_map, leftS_next]; first | done | omega)) only [go_sem, ↓reduceIte, Nat.reduceBEq, Nat.reduceAdd, Nat.reduceLeDiff, Nat.reduceEqDiff, Nat.reduceLT, Nat.reduceMul, b0]; (repeat (with_reducible refine And.intro (by first | omega | assumption | rfl) ?_)))
    refine ddraw_mk 10 (by kernel_rfl) ?_
    (simp (disch := first | decide | omega | (simp only [add_next, set_next, grow_next, leave_next, drop_next, List.length_map, leftS_next]; first | done | omega)) only [go_sem, ↓reduceIte, Nat.reduceBEq, Nat.reduceAdd, Nat.reduceLeDiff, Nat.reduceEqDiff, Nat.reduceLT, Nat.reduceMul]; (repeat (with_reducible refine And.intro (by first | omega | assumption | rfl) ?_)))
    refine dqgo_mk (part_d v p hok hw) ?_
    by_cases hin : inP v p
    · have e1 : (decide (0 ≤ placeOf v p) && decide (placeOf v p < (v.parts.length : Int))) = true := by rw [decide_eq_true hin.1, decide_eq_true hin.2]; rfl
      have hpl : (placeOf v p).toNat < v.parts.length := by have := hin.1; have := hin.2; omega
      have hx := getD_map encV v.parts _ hpl
      have cv : (encV v).cells = [.v (.int .i64 v.kind), .v (.int .i64 v.n), strD v.s, .sl .no (v.names.map strD), .sl .no (v.ids.map u64D), .sl .no (v.parts.map encV)] := by rw [encV_eq]; rfl
      obtain ⟨o1, o2, o3, o4, o5, o6, o7, o8, o9⟩ := (okV_eq v).1 hok
      have hgd : v.parts.getD (plN v p) default = v.parts[(placeOf v p).toNat] := getD_at hpl
      have hget : getV (p :: ps) v = getV ps v.parts[(placeOf v p).toNat] := by rw [getV_cons, if_pos hin, hgd]
      have hch : chV fV (p :: ps) v = v.withParts (v.parts.set (placeOf v p).toNat (chV fV ps v.parts[(placeOf v p).toNat])) := by rw [chV, if_pos hin, hgd]; rfl
      have hxo : okV v.parts[(placeOf v p).toNat] := o9 _ (List.getElem_mem hpl)
      have hxw : v.parts[(placeOf v p).toNat].weight ≤ 1000000 := by have := DVal.weight_part (List.getElem_mem hpl); omega
      rw [hget, hch]
      have c1 := hin.1
      have c2 := hin.2
      clear hget hch hgd hin
      have ih' := fun S' (hs : S.Sub S') => ih .no v.parts[(placeOf v p).toNat] S' hxo hxw (by simp only [List.length_cons] at hl; omega) (hv.sub hs)
      clear ih
      generalize v.parts[(placeOf v p).toNat] = x at *
      generalize getV ps x = r at *
      generalize chV fV ps x = y at *
      (simp (disch := first | decide | omega | (simp only [add_next, set_next, grow_next, leave_next, drop_next, List.length_map, leftS_next]; first | done | omega)) only [go_sem, ↓reduceIte, Nat.reduceBEq, Nat.reduceAdd, Nat.reduceLeDiff, Nat.reduceEqDiff, Nat.reduceLT, Nat.reduceMul, partV, e1]; (repeat (with_reducible refine And.intro (by first | omega | assumption | rfl) ?_)))
      refine ddraw_cut (fun f' T => ∃ n0, f' 3 = .loc S.next 0 ∧ f' 6 = .loc (S.next + 1) 0 ∧ f' 8 = .v (.int .i64 (placeOf v p)) ∧ f' 9 = .v (.bool r.isSome) ∧ f' 10 = .loc n0 0 ∧
        T.ob S.next = some (.box 31 (encV v).cells) ∧ T.ob (S.next + 1) = some (.box 31 [.v (.int .i64 0), .v (.int .i64 0), .v (.string ⟨#[]⟩), .sl .full [], .sl .full [], .sl .full []]) ∧ T.ob n0 = some (.box 31 (encV y).cells) ∧ S.next + 2 ≤ n0 ∧ n0 < T.next ∧ (leftS S c r).Sub T) ?_ ?_
      · refine ddraw_any (fun S' => S'.ob S.next = some (.box 31 (encV v).cells)) 15 (by (first | (simp (disch := first | decide | omega | (simp only [add_next, set_next, grow_next, leave_next, drop_next, List.length_map, leftS_next]; first | done | omega)) only [go_sem, ↓reduceIte, Nat.reduceBEq, Nat.reduceAdd, Nat.reduceLeDiff, Nat.reduceEqDiff, Nat.reduceLT, Nat.reduceMul]; first | done | rfl) | rfl)) (by kernel_rfl) ?_
        (refine s_take 0 rfl (by kernel_rfl) (by kernel_rfl) (v := .loc S.next 5) (fun S' hz => dquietR_of (by (simp (disch := first | decide | omega | (simp only [add_next, set_next, grow_next, leave_next, drop_next, List.length_map, leftS_next]; first | done | omega)) only [go_sem, ↓reduceIte, Nat.reduceBEq, Nat.reduceAdd, Nat.reduceLeDiff, Nat.reduceEqDiff, Nat.reduceLT, Nat.reduceMul]; (repeat (with_reducible refine And.intro (by first | omega | assumption | rfl) ?_))); first | done | rfl | omega)) ?_)
        (refine s_take 1 rfl (by kernel_rfl) (by kernel_rfl) (v := .sl .no (v.parts.map encV)) (fun S' hz => dquietR_of (by (simp (disch := first | decide | omega | (simp only [add_next, set_next, grow_next, leave_next, drop_next, List.length_map, leftS_next]; first | done | omega)) only [go_sem, ↓reduceIte, Nat.reduceBEq, Nat.reduceAdd, Nat.reduceLeDiff, Nat.reduceEqDiff, Nat.reduceLT, Nat.reduceMul, hz, cv]; (repeat (with_reducible refine And.intro (by first | omega | assumption | rfl) ?_))); first | done | rfl | omega)) ?_)
        (refine s_take 2 rfl (by kernel_rfl) (by kernel_rfl) (v := .v (.int .i64 (placeOf v p))) (fun S' hz => dquietR_of (by (simp (disch := first | decide | omega | (simp only [add_next, set_next, grow_next, leave_next, drop_next, List.length_map, leftS_next]; first | done | omega)) only [go_sem, ↓reduceIte, Nat.reduceBEq, Nat.reduceAdd, Nat.reduceLeDiff, Nat.reduceEqDiff, Nat.reduceLT, Nat.reduceMul]; (repeat (with_reducible refine And.intro (by first | omega | assumption | rfl) ?_))); first | done | rfl | omega)) ?_)
        (refine s_take 3 rfl (by kernel_rfl) (by kernel_rfl) (v := .rd (encV x).cells 0) (fun S' hz => dquietR_of (by (simp (disch := first | decide | omega | (simp only [add_next, set_next, grow_next, leave_next, drop_next, List.length_map, leftS_next]; first | done | omega)) only [go_sem, ↓reduceIte, Nat.reduceBEq, Nat.reduceAdd, Nat.reduceLeDiff, Nat.reduceEqDiff, Nat.reduceLT, Nat.reduceMul, hx, c1, c2]; (repeat (with_reducible refine And.intro (by first | omega | assumption | rfl) ?_))); first | done | rfl | omega)) ?_)
        (refine s_take 4 rfl (by kernel_rfl) (by kernel_rfl) (v := encV x) (fun S' hz => dquietR_of (by (simp (disch := first | decide | omega | (simp only [add_next, set_next, grow_next, leave_next, drop_next, List.length_map, leftS_next]; first | done | omega)) only [go_sem, ↓reduceIte, Nat.reduceBEq, Nat.reduceAdd, Nat.reduceLeDiff, Nat.reduceEqDiff, Nat.reduceLT, Nat.reduceMul]; (repeat (with_reducible refine And.intro (by first | omega | assumption | rfl) ?_))); first | done | rfl | omega)) ?_)
        (refine s_take 5 rfl (by kernel_rfl) (by kernel_rfl) (v := .sl own ((p :: ps).map encP)) (fun S' hz => dquietR_of (by (simp (disch := first | decide | omega | (simp only [add_next, set_next, grow_next, leave_next, drop_next, List.length_map, leftS_next]; first | done | omega)) only [go_sem, ↓reduceIte, Nat.reduceBEq, Nat.reduceAdd, Nat.reduceLeDiff, Nat.reduceEqDiff, Nat.reduceLT, Nat.reduceMul]; (repeat (with_reducible refine And.intro (by first | omega | assumption | rfl) ?_))); first | done | rfl | omega)) ?_)
        (refine s_take 6 rfl (by kernel_rfl) (by kernel_rfl) (v := .sl .no (ps.map encP)) (fun S' hz => dquietR_of (by (simp (disch := first | decide | omega | (simp only [add_next, set_next, grow_next, leave_next, drop_next, List.length_map, leftS_next]; first | done | omega)) only [go_sem, ↓reduceIte, Nat.reduceBEq, Nat.reduceAdd, Nat.reduceLeDiff, Nat.reduceEqDiff, Nat.reduceLT, Nat.reduceMul, Nat.reduceSub, List.drop_one, List.tail_cons]; (repeat (with_reducible refine And.intro (by first | omega | assumption | rfl) ?_))); first | done | rfl | omega)) ?_)
        (refine s_take 7 rfl (by kernel_rfl) (by kernel_rfl) (v := .fn (.func g) fs cs) (fun S' hz => dquietR_of (by (simp (disch := first | decide | omega | (simp only [add_next, set_next, grow_next, leave_next, drop_next, List.length_map, leftS_next]; first | done | omega)) only [go_sem, ↓reduceIte, Nat.reduceBEq, Nat.reduceAdd, Nat.reduceLeDiff, Nat.reduceEqDiff, Nat.reduceLT, Nat.reduceMul]; (repeat (with_reducible refine And.intro (by first | omega | assumption | rfl) ?_))); first | done | rfl | omega)) ?_)
        refine s_split [8, 12] (by kernel_rfl) (by simp) ?_
        intro i hi
        simp only [List.mem_cons, List.not_mem_nil, or_false] at hi
        rcases hi with rfl | rfl
        · refine s_op rfl ?_
          (simp (disch := first | decide | omega | (simp only [add_next, set_next, grow_next, leave_next, drop_next, List.length_map, leftS_next]; first | done | omega)) only [go_sem, ↓reduceIte, Nat.reduceBEq, Nat.reduceAdd, Nat.reduceLeDiff, Nat.reduceEqDiff, Nat.reduceLT, Nat.reduceMul]; (repeat (with_reducible refine And.intro (by first | omega | assumption | rfl) ?_)))
          refine (ih' _ (by (repeat' first | assumption | exact St.Sub.refl _ | exact RowOk.sub (by assumption) (by assumption) | refine St.Sub.trans ?_ (RowOk.sub (by assumption) (by assumption)) | refine St.Sub.add ?_ ?_ _ | refine St.Sub.set ?_ ?_ ?_ _ | refine St.Sub.keep ?_ ?_ | refine St.WF.leave ?_ _ | refine St.WF.add ?_ _ | refine St.WF.set ?_ ?_ _ | refine St.WF.grow ?_ _ _ _ | refine St.WF.keep ?_ ?_ | (first | omega | (simp only [RowOk.lo, add_next, set_next, grow_next, leave_next, drop_next]; first | done | omega))))).mono ?_
          rintro d T ⟨rfl, rfl⟩
          refine ⟨by (first | (simp (disch := first | decide | omega | (simp only [add_next, set_next, grow_next, leave_next, drop_next, List.length_map, leftS_next]; first | done | omega)) only [go_sem, ↓reduceIte, Nat.reduceBEq, Nat.reduceAdd, Nat.reduceLeDiff, Nat.reduceEqDiff, Nat.reduceLT, Nat.reduceMul, hL]; first | done | rfl) | rfl), ?_⟩
          (refine s_take 9 rfl (by kernel_rfl) (by kernel_rfl) (v := .tup [encV y, .v (.bool r.isSome)]) (fun S' hz => dquietR_of (by (simp (disch := first | decide | omega | (simp only [add_next, set_next, grow_next, leave_next, drop_next, List.length_map, leftS_next]; first | done | omega)) only [go_sem, ↓reduceIte, Nat.reduceBEq, Nat.reduceAdd, Nat.reduceLeDiff, Nat.reduceEqDiff, Nat.reduceLT, Nat.reduceMul]; (repeat (with_reducible refine And.intro (by first | omega | assumption | rfl) ?_))); first | done | rfl | omega)) ?_)
          (refine s_take 10 rfl (by kernel_rfl) (by kernel_rfl) (v := encV y) (fun S' hz => dquietR_of (by (simp (disch := first | decide | omega | (simp only [add_next, set_next, grow_next, leave_next, drop_next, List.length_map, leftS_next]; first | done | omega)) only [go_sem, ↓reduceIte, Nat.reduceBEq, Nat.reduceAdd, Nat.reduceLeDiff, Nat.reduceEqDiff, Nat.reduceLT, Nat.reduceMul]; (repeat (with_reducible refine And.intro (by first | omega | assumption | rfl) ?_))); first | done | rfl | omega)) ?_)
          (refine s_take 11 rfl (by kernel_rfl) (by kernel_rfl) (v := .v (.bool r.isSome)) (fun S' hz => dquietR_of (by (simp (disch := first | decide | omega | (simp only [add_next, set_next, grow_next, leave_next, drop_next, List.length_map, leftS_next]; first | done | omega)) only [go_sem, ↓reduceIte, Nat.reduceBEq, Nat.reduceAdd, Nat.reduceLeDiff, Nat.reduceEqDiff, Nat.reduceLT, Nat.reduceMul]; (repeat (with_reducible refine And.intro (by first | omega | assumption | rfl) ?_))); first | done | rfl | omega)) ?_)
          refine s_split [12] (by kernel_rfl) (by simp) ?_
          intro i hi
          obtain rfl : i = 12 := by simpa using hi
          refine s_op rfl ?_
          (simp (disch := first | decide | omega | (simp only [add_next, set_next, grow_next, leave_next, drop_next, List.length_map, leftS_next]; first | done | omega)) only [go_sem, ↓reduceIte, Nat.reduceBEq, Nat.reduceAdd, Nat.reduceLeDiff, Nat.reduceEqDiff, Nat.reduceLT, Nat.reduceMul, hL, leftS_next]; (repeat (with_reducible refine And.intro (by first | omega | assumption | rfl) ?_)))
          refine s_split [13] (by kernel_rfl) (by simp) ?_
          intro i hi
          obtain rfl : i = 13 := by simpa using hi
          refine s_op rfl ?_
          (simp (disch := first | decide | omega | (simp only [add_next, set_next, grow_next, leave_next, drop_next, List.length_map, leftS_next]; first | done | omega)) only [go_sem, ↓reduceIte, Nat.reduceBEq, Nat.reduceAdd, Nat.reduceLeDiff, Nat.reduceEqDiff, Nat.reduceLT, Nat.reduceMul, hL, leftS_next]; (repeat (with_reducible refine And.intro (by first | omega | assumption | rfl) ?_)))
          (refine s_take 14 rfl (by kernel_rfl) (by kernel_rfl) (v := .v (.bool r.isSome)) (fun S' hz => dquietR_of (by (simp (disch := first | decide | omega | (simp only [add_next, set_next, grow_next, leave_next, drop_next, List.length_map, leftS_next]; first | done | omega)) only [go_sem, ↓reduceIte, Nat.reduceBEq, Nat.reduceAdd, Nat.reduceLeDiff, Nat.reduceEqDiff, Nat.reduceLT, Nat.reduceMul]; (repeat (with_reducible refine And.intro (by first | omega | assumption | rfl) ?_))); first | done | rfl | omega)) ?_)
          refine s_done (by kernel_rfl) ?_
          (simp (disch := first | decide | omega | (simp only [add_next, set_next, grow_next, leave_next, drop_next, List.length_map, leftS_next]; first | done | omega)) only [go_sem, ↓reduceIte, Nat.reduceBEq, Nat.reduceAdd, Nat.reduceLeDiff, Nat.reduceEqDiff, Nat.reduceLT, Nat.reduceMul, hL, leftS_next]; (repeat (with_reducible refine And.intro (by first | omega | assumption | rfl) ?_)))
          refine ⟨S.next + 1 + 1, ?_⟩
          (simp (disch := first | decide | omega | (simp only [add_next, set_next, grow_next, leave_next, drop_next, List.length_map, leftS_next]; first | done | omega)) only [go_sem, ↓reduceIte, Nat.reduceBEq, Nat.reduceAdd, Nat.reduceLeDiff, Nat.reduceEqDiff, Nat.reduceLT, Nat.reduceMul, hL, leftS_next]; (repeat (with_reducible refine And.intro (by first | omega | assumption | rfl) ?_)))
          refine St.Sub.set (St.Sub.add (leftS_sub hS (by (repeat' first | assumption | exact St.Sub.refl _ | exact RowOk.sub (by assumption) (by assumption) | refine St.Sub.trans ?_ (RowOk.sub (by assumption) (by assumption)) | refine St.Sub.add ?_ ?_ _ | refine St.Sub.set ?_ ?_ ?_ _ | refine St.Sub.keep ?_ ?_ | refine St.WF.leave ?_ _ | refine St.WF.add ?_ _ | refine St.WF.set ?_ ?_ _ | refine St.WF.grow ?_ _ _ _ | refine St.WF.keep ?_ ?_ | (first | omega | (simp only [RowOk.lo, add_next, set_next, grow_next, leave_next, drop_next]; first | done | omega))))) (leftS_wf hS hv.1 r) _) (leftS_wf hS hv.1 r) ?_ _
          rw [leftS_next]; omega
        · refine s_op rfl ?_
          (simp (disch := first | decide | omega | (simp only [add_next, set_next, grow_next, leave_next, drop_next, List.length_map, leftS_next]; first | done | omega)) only [go_sem, ↓reduceIte, Nat.reduceBEq, Nat.reduceAdd, Nat.reduceLeDiff, Nat.reduceEqDiff, Nat.reduceLT, Nat.reduceMul]; (repeat (with_reducible refine And.intro (by first | omega | assumption | rfl) ?_)))
          refine s_split [8] (by kernel_rfl) (by simp) ?_
          intro i hi
          obtain rfl : i = 8 := by simpa using hi
          refine s_op rfl ?_
          (simp (disch := first | decide | omega | (simp only [add_next, set_next, grow_next, leave_next, drop_next, List.length_map, leftS_next]; first | done | omega)) only [go_sem, ↓reduceIte, Nat.reduceBEq, Nat.reduceAdd, Nat.reduceLeDiff, Nat.reduceEqDiff, Nat.reduceLT, Nat.reduceMul]; (repeat (with_reducible refine And.intro (by first | omega | assumption | rfl) ?_)))
          refine (ih' _ (by (repeat' first | assumption | exact St.Sub.refl _ | exact RowOk.sub (by assumption) (by assumption) | refine St.Sub.trans ?_ (RowOk.sub (by assumption) (by assumption)) | refine St.Sub.add ?_ ?_ _ | refine St.Sub.set ?_ ?_ ?_ _ | refine St.Sub.keep ?_ ?_ | refine St.WF.leave ?_ _ | refine St.WF.add ?_ _ | refine St.WF.set ?_ ?_ _ | refine St.WF.grow ?_ _ _ _ | refine St.WF.keep ?_ ?_ | (first | omega | (simp only [RowOk.lo, add_next, set_next, grow_next, leave_next, drop_next]; first | done | omega))))).mono ?_
          rintro d T ⟨rfl, rfl⟩
          refine ⟨by (first | (simp (disch := first | decide | omega | (simp only [add_next, set_next, grow_next, leave_next, drop_next, List.length_map, leftS_next]; first | done | omega)) only [go_sem, ↓reduceIte, Nat.reduceBEq, Nat.reduceAdd, Nat.reduceLeDiff, Nat.reduceEqDiff, Nat.reduceLT, Nat.reduceMul, hL]; first | done | rfl) | rfl), ?_⟩
          (refine s_take 9 rfl (by kernel_rfl) (by kernel_rfl) (v := .tup [encV y, .v (.bool r.isSome)]) (fun S' hz => dquietR_of (by (simp (disch := first | decide | omega | (simp only [add_next, set_next, grow_next, leave_next, drop_next, List.length_map, leftS_next]; first | done | omega)) only [go_sem, ↓reduceIte, Nat.reduceBEq, Nat.reduceAdd, Nat.reduceLeDiff, Nat.reduceEqDiff, Nat.reduceLT, Nat.reduceMul]; (repeat (with_reducible refine And.intro (by first | omega | assumption | rfl) ?_))); first | done | rfl | omega)) ?_)
          (refine s_take 10 rfl (by kernel_rfl) (by kernel_rfl) (v := encV y) (fun S' hz => dquietR_of (by (simp (disch := first | decide | omega | (simp only [add_next, set_next, grow_next, leave_next, drop_next, List.length_map, leftS_next]; first | done | omega)) only [go_sem, ↓reduceIte, Nat.reduceBEq, Nat.reduceAdd, Nat.reduceLeDiff, Nat.reduceEqDiff, Nat.reduceLT, Nat.reduceMul]; (repeat (with_reducible refine And.intro (by first | omega | assumption | rfl) ?_))); first | done | rfl | omega)) ?_)
          (refine s_take 11 rfl (by kernel_rfl) (by kernel_rfl) (v := .v (.bool r.isSome)) (fun S' hz => dquietR_of (by (simp (disch := first | decide | omega | (simp only [add_next, set_next, grow_next, leave_next, drop_next, List.length_map, leftS_next]; first | done | omega)) only [go_sem, ↓reduceIte, Nat.reduceBEq, Nat.reduceAdd, Nat.reduceLeDiff, Nat.reduceEqDiff, Nat.reduceLT, Nat.reduceMul]; (repeat (with_reducible refine And.intro (by first | omega | assumption | rfl) ?_))); first | done | rfl | omega)) ?_)
          refine s_split [13] (by kernel_rfl) (by simp) ?_
          intro i hi
          obtain rfl : i = 13 := by simpa using hi
          refine s_op rfl ?_
          (simp (disch := first | decide | omega | (simp only [add_next, set_next, grow_next, leave_next, drop_next, List.length_map, leftS_next]; first | done | omega)) only [go_sem, ↓reduceIte, Nat.reduceBEq, Nat.reduceAdd, Nat.reduceLeDiff, Nat.reduceEqDiff, Nat.reduceLT, Nat.reduceMul, hL, leftS_next]; (repeat (with_reducible refine And.intro (by first | omega | assumption | rfl) ?_)))
          (refine s_take 14 rfl (by kernel_rfl) (by kernel_rfl) (v := .v (.bool r.isSome)) (fun S' hz => dquietR_of (by (simp (disch := first | decide | omega | (simp only [add_next, set_next, grow_next, leave_next, drop_next, List.length_map, leftS_next]; first | done | omega)) only [go_sem, ↓reduceIte, Nat.reduceBEq, Nat.reduceAdd, Nat.reduceLeDiff, Nat.reduceEqDiff, Nat.reduceLT, Nat.reduceMul]; (repeat (with_reducible refine And.intro (by first | omega | assumption | rfl) ?_))); first | done | rfl | omega)) ?_)
          refine s_done (by kernel_rfl) ?_
          (simp (disch := first | decide | omega | (simp only [add_next, set_next, grow_next, leave_next, drop_next, List.length_map, leftS_next]; first | done | omega)) only [go_sem, ↓reduceIte, Nat.reduceBEq, Nat.reduceAdd, Nat.reduceLeDiff, Nat.reduceEqDiff, Nat.reduceLT, Nat.reduceMul, hL, leftS_next]; (repeat (with_reducible refine And.intro (by first | omega | assumption | rfl) ?_)))
          refine ⟨S.next + 1 + 1, ?_⟩
          (simp (disch := first | decide | omega | (simp only [add_next, set_next, grow_next, leave_next, drop_next, List.length_map, leftS_next]; first | done | omega)) only [go_sem, ↓reduceIte, Nat.reduceBEq, Nat.reduceAdd, Nat.reduceLeDiff, Nat.reduceEqDiff, Nat.reduceLT, Nat.reduceMul, hL, leftS_next]; (repeat (with_reducible refine And.intro (by first | omega | assumption | rfl) ?_)))
          refine St.Sub.set (leftS_sub hS (by (repeat' first | assumption | exact St.Sub.refl _ | exact RowOk.sub (by assumption) (by assumption) | refine St.Sub.trans ?_ (RowOk.sub (by assumption) (by assumption)) | refine St.Sub.add ?_ ?_ _ | refine St.Sub.set ?_ ?_ ?_ _ | refine St.Sub.keep ?_ ?_ | refine St.WF.leave ?_ _ | refine St.WF.add ?_ _ | refine St.WF.set ?_ ?_ _ | refine St.WF.grow ?_ _ _ _ | refine St.WF.keep ?_ ?_ | (first | omega | (simp only [RowOk.lo, add_next, set_next, grow_next, leave_next, drop_next]; first | done | omega))))) (leftS_wf hS hv.1 r) ?_ _
          rw [leftS_next]; omega
      · rintro f' T ⟨n0, q3, q6, q8, q9, q10, t0, t1, t2, n1, n2, hsub⟩
        (simp (disch := first | decide | omega | (simp only [add_next, set_next, grow_next, leave_next, drop_next, List.length_map, leftS_next]; first | done | omega)) only [go_sem, ↓reduceIte, Nat.reduceBEq, Nat.reduceAdd, Nat.reduceLeDiff, Nat.reduceEqDiff, Nat.reduceLT, Nat.reduceMul, q3, q6, q8, q9, q10, t0, t1, t2, cv]; (repeat (with_reducible refine And.intro (by first | omega | assumption | rfl) ?_)))
        have hpos : 0 < v.parts.length := by omega
        have hpl0 := partsLen v
        have hwe := v.weight_eq
        refine dapp_win rfl ⟨rfl, rfl, by simpa using hpos, rfl, by (first | (simp (disch := first | decide | omega | (simp only [add_next, set_next, grow_next, leave_next, drop_next, List.length_map, leftS_next]; first | done | omega)) only [go_sem, ↓reduceIte, Nat.reduceBEq, Nat.reduceAdd, Nat.reduceLeDiff, Nat.reduceEqDiff, Nat.reduceLT, Nat.reduceMul]; first | done | rfl) | rfl), by (first | (simp (disch := first | decide | omega | (simp only [add_next, set_next, grow_next, leave_next, drop_next, List.length_map, leftS_next]; first | done | omega)) only [go_sem, ↓reduceIte, Nat.reduceBEq, Nat.reduceAdd, Nat.reduceLeDiff, Nat.reduceEqDiff, Nat.reduceLT, Nat.reduceMul]; first | done | rfl) | rfl), (fun d hd => by obtain ⟨u, _, rfl⟩ := List.mem_map.1 hd; exact cells_encV u), by rw [List.length_map]; omega, by simp (disch := first | decide | omega | (simp only [add_next, set_next, grow_next, leave_next, drop_next, List.length_map, leftS_next]; first | done | omega)) only [go_sem, ↓reduceIte, Nat.reduceBEq, Nat.reduceAdd, Nat.reduceLeDiff, Nat.reduceEqDiff, Nat.reduceLT, Nat.reduceMul]; omega, fun cw zs _ _ => ?_⟩
        (simp (disch := first | decide | omega | (simp only [add_next, set_next, grow_next, leave_next, drop_next, List.length_map, leftS_next]; first | done | omega)) only [go_sem, ↓reduceIte, Nat.reduceBEq, Nat.reduceAdd, Nat.reduceLeDiff, Nat.reduceEqDiff, Nat.reduceLT, Nat.reduceMul, q3, q6, q8, q9, q10, t0, t1, t2, cv]; (repeat (with_reducible refine And.intro (by first | omega | assumption | rfl) ?_)))
        have hwid : ∀ d ∈ List.map encV v.parts, d.width = 6 := fun d hd => by obtain ⟨u, _, rfl⟩ := List.mem_map.1 hd; exact cells_encV u
        have hlen : (placeOf v p).toNat < (List.map encV v.parts).length := by rw [List.length_map]; omega
        refine ⟨by rw [List.length_append, dflat_length hwid]; simp; omega, ?_⟩
        rw [splice_flat' hlen hwid (cells_encV y)]
        have hwid2 : ∀ d ∈ (List.map encV v.parts).set (placeOf v p).toNat (encV y), d.width = szOf Try.prog 31 := fun d hd => by
          simp (disch := first | decide | omega | (simp only [add_next, set_next, grow_next, leave_next, drop_next, List.length_map, leftS_next]; first | done | omega)) only [go_sem, ↓reduceIte, Nat.reduceBEq, Nat.reduceAdd, Nat.reduceLeDiff, Nat.reduceEqDiff, Nat.reduceLT, Nat.reduceMul]
          rcases List.mem_or_eq_of_mem_set hd with hd | rfl
          · exact hwid d hd
          · exact cells_encV y
        refine ⟨_, _, thaw_win (k := T.next) (zs := zs) (by (first | (simp (disch := first | decide | omega | (simp only [add_next, set_next, grow_next, leave_next, drop_next, List.length_map, leftS_next]; first | done | omega)) only [go_sem, ↓reduceIte, Nat.reduceBEq, Nat.reduceAdd, Nat.reduceLeDiff, Nat.reduceEqDiff, Nat.reduceLT, Nat.reduceMul]; first | done | rfl) | rfl)) (by simp (disch := first | decide | omega | (simp only [add_next, set_next, grow_next, leave_next, drop_next, List.length_map, leftS_next]; first | done | omega)) only [go_sem, ↓reduceIte, Nat.reduceBEq, Nat.reduceAdd, Nat.reduceLeDiff, Nat.reduceEqDiff, Nat.reduceLT, Nat.reduceMul]) hwid2 rfl, ?_⟩
        have hlw := leftS_wf hS hv.1 r
        have hln := leftS_next S c r
        have hnx := hsub.next
        refine fin_left (P := Try.prog) (c := c) (r := r) hS hv.1 ?_ ?_ (closed_res _ _) ⟨rfl, rfl⟩
        · refine St.Sub.drop (St.Sub.set (St.Sub.set (St.Sub.set (St.Sub.add hsub hlw _) hlw ?_ _) hlw ?_ _) hlw ?_ _) hlw ?_ <;> (rw [hln] at *; omega)
        · simp only [D.thaw, thawL, List.length_set, List.length_map, Nat.beq_refl, Bool.and_self, cond_true]
          rw [encV_eq (v.withParts _), ← List.map_set]
          rfl
    · have e1 : (decide (0 ≤ placeOf v p) && decide (placeOf v p < (v.parts.length : Int))) = false := by
        cases h : (decide (0 ≤ placeOf v p) && decide (placeOf v p < (v.parts.length : Int))) with
        | false => rfl
        | true => rw [Bool.and_eq_true, decide_eq_true_eq, decide_eq_true_eq] at h; exact absurd h hin
      have hg : getV (p :: ps) v = none := by rw [getV_cons, if_neg hin]
      have hc : chV fV (p :: ps) v = v := by rw [chV, if_neg hin]
      (simp (disch := first | decide | omega | (simp only [add_next, set_next, grow_next, leave_next, drop_next, List.length_map, leftS_next]; first | done | omega)) only [go_sem, ↓reduceIte, Nat.reduceBEq, Nat.reduceAdd, Nat.reduceLeDiff, Nat.reduceEqDiff, Nat.reduceLT, Nat.reduceMul, partV, e1]; (repeat (with_reducible refine And.intro (by first | omega | assumption | rfl) ?_)))
      rw [hg, hc]
      refine DFin.t (fin_left (P := Try.prog) (c := c) (r := none) hS hv.1 ?_ rfl (closed_res _ _) ?_)
      · have : leftS S c none = S := by cases c <;> rfl
        rw [this]
        exact (by (repeat' first | assumption | exact St.Sub.refl _ | exact RowOk.sub (by assumption) (by assumption) | refine St.Sub.trans ?_ (RowOk.sub (by assumption) (by assumption)) | refine St.Sub.add ?_ ?_ _ | refine St.Sub.set ?_ ?_ ?_ _ | refine St.Sub.keep ?_ ?_ | refine St.WF.leave ?_ _ | refine St.WF.add ?_ _ | refine St.WF.set ?_ ?_ _ | refine St.WF.grow ?_ _ _ _ | refine St.WF.keep ?_ ?_ | (first | omega | (simp only [RowOk.lo, add_next, set_next, grow_next, leave_next, drop_next]; first | done | omega))))
      · exact ⟨rfl, rfl⟩
end Go.Proofs.Ytpnjkebjdclkfaa

/- Values, walked: owned values given back; where a name stands in an owned slice. Conditions: none. -/
namespace Go.Proofs.Ytpnjkebjdclkfaa
open Go.RowKit
set_option linter.unusedSimpArgs false
set_option linter.unusedVariables false
theorem thawOV {T : St} {v : DVal} {a b c ca cb cc : Nat} {zn zi zp : List D} (h : OV T v a b c ca cb cc zn zi zp) : Thaw Try.prog T (ownV v a b c ca cb cc) (((T.drop a).drop b).drop c) (encV v) := by
  have hba : b ≠ a := fun e => h.ab e.symm
  have hca : c ≠ a := fun e => h.ac e.symm
  have hcb : c ≠ b := fun e => h.bc e.symm
  have n1 := ownOb_len (wSs v.names) (by omega) h.ln
  have n2 := ownOb_len (wUs v.ids) (by omega) h.li
  have n3 := ownOb_len (wVs v.parts) (by omega) h.lp
  have bne : ∀ {x y : Nat}, x ≠ y → Nat.beq x y = false := fun {x y} hne => by
    cases hb : Nat.beq x y with
    | false => rfl
    | true => exact absurd (Nat.eq_of_beq_eq_true hb) hne
  refine Thaw.trans (thaw_own (zs := zn) h.obn n1 (by rw [szS]; omega) (by rw [szS]; exact wSs _) rfl) ?_
  refine Thaw.trans (thaw_own (k := b) (zs := zi) (c := cb) (e := 52) (es := v.ids.map u64D) (by simp only [St.drop, if_neg hba]; exact h.obi) n2 (by rw [szU]; omega) (by rw [szU]; exact wUs _) rfl) ?_
  refine thaw_own (k := c) (zs := zp) (c := cc) (e := 31) (es := v.parts.map encV) (by simp only [St.drop, if_neg hca, if_neg hcb]; exact h.obp) n3 (by rw [szV]; omega) (by rw [szV]; exact wVs _) ?_
  simp only [ownV, D.thaw, thawL, List.length_map, Nat.beq_refl, Bool.and_self, Bool.and_true, cond_true, bne h.ab, bne h.ac, bne h.bc, bne hba, bne hca, bne hcb, Bool.false_and, cond_false]
  rw [encV_eq]
  rfl
theorem fin_own {S T : St} {v : DVal} {a b c ca cb cc : Nat} {zn zi zp : List D} (hS : S.WF) (hs : S.Sub T) (ha : S.next ≤ a) (hb : S.next ≤ b) (hc : S.next ≤ c) (h : OV T v a b c ca cb cc zn zi zp) :
    DFinT Try.prog S T (ownV v a b c ca cb cc) (fun d' T' => d' = encV v ∧ T' = S) :=
  ⟨_, _, thawOV h, fin_pure hS (closed_encV v) ⟨hs.next, fun j o hj => by
    have := hS.lt hj
    simp only [St.drop]
    rw [if_neg (by omega), if_neg (by omega), if_neg (by omega)]
    exact hs.ob j o hj⟩⟩
set_option maxRecDepth 200000 in
set_option maxHeartbeats 4000000 in
theorem whole_w (v : DVal) (a b c ca cb cc : Nat) : DPure Try.prog 107 [ownV v a b c ca cb cc] (.v (.bool (wholeB v))) := by
  refine dpure_of_dwp mixed Try.func107 rfl (fun _ _ => by kernel_rfl) (rs := [.tmp 2]) rfl (by kernel_rfl) trivial (fun S hS => ?_)
  by_cases h5 : v.kind = 5
  · have b5 : (v.kind == 5) = true := by simp [h5]
    simp only [go_sem, ↓reduceIte, Nat.reduceBEq, Nat.reduceAdd, Nat.reduceLeDiff, Nat.reduceEqDiff, Nat.reduceLT, add_ob, set_ob, ownV, b5]
    refine ⟨?_, (St.Sub.refl S).add hS _⟩
    simp only [D.frz, wholeB, decide_eq_true h5, Bool.true_and]
    congr 3
    exact propext ⟨fun h => by omega, fun h => by omega⟩
  · have b5 : (v.kind == 5) = false := by simp [h5]
    simp only [go_sem, ↓reduceIte, Nat.reduceBEq, Nat.reduceAdd, Nat.reduceLeDiff, Nat.reduceEqDiff, Nat.reduceLT, add_ob, set_ob, ownV, b5]
    exact ⟨by simp only [D.frz, wholeB, decide_eq_false h5, Bool.false_and], (St.Sub.refl S).add hS _⟩
section
variable {P : Program} {base : Nat} {S : St} {η : Names} {w : World}
theorem flat_vs {α : Type} (g : α → Value) (l : List α) : flat (l.map fun a => D.v (g a)) = l.map fun a => D.v (g a) := by
  induction l with
  | nil => rfl
  | cons a l ih =>
    have : flat ((a :: l).map fun a => D.v (g a)) = D.v (g a) :: flat (l.map fun a => D.v (g a)) := by simp [flat, D.cells]
    rw [this, ih]
    rfl
/-- An owned slice of scalars, in memory. -/
theorem win_scalars {α : Type} (g : α → Value) (hM : Mem P base S η w) {k c : Nat} {e : TypeId} {l : List α} {zs : List D} {y : Value} (hk : S.ob k = some (ownOb e (l.map fun a => D.v (g a)) zs c)) (hc : l.length ≤ c) (h : Rep P w η (Fix P S η) (.win k 0 l.length c) y) :
    ∃ A, y = .slice A l.length c ∧ RF w (· < w.heap.size) 1 A l.length (l.map g) := by
  obtain ⟨us, ⟨⟨A, c', rfl, _, hA⟩, h2, h3⟩, h4⟩ := srcOk_at hM (z := 1) (m := l.length) (news := flat (l.map fun a => D.v (g a))) (by
    have := srcOk_ownA (z := 1) (c' := c) hk (by rw [List.length_map]; exact hc) (fun d hd => by obtain ⟨a, _, rfl⟩ := List.mem_map.1 hd; rfl)
    rwa [List.length_map] at this) h
  rw [flat_vs] at h4
  have hus : us = l.map g := by
    have : ∀ (l : List α) (us : List Value), RepL P w η (Fix P S η) (l.map fun a => D.v (g a)) us → us = l.map g := by
      intro l
      induction l with
      | nil => intro us h; simp only [List.map_nil, RepL] at h; simp [h]
      | cons a l ih =>
        intro us h
        simp only [List.map_cons, RepL, Rep] at h
        obtain ⟨x, xs, rfl, rfl, h⟩ := h
        rw [ih xs h]; rfl
    exact this l us h4
  subst hus
  obtain ⟨A', e1, _⟩ := h.win_slice
  injection e1 with e1 _ e2
  subst e2
  refine ⟨A, rfl, by simp, fun h0 => ?_⟩
  rcases hA with ⟨_, h0'⟩ | ⟨a, rfl, ha⟩
  · omega
  · have hr := h
    simp only [Rep] at hr
    rcases hr with ⟨b, hb, e, _⟩ | ⟨_, h0', _⟩
    · injection e with e
      injection e with e
      subst e
      refine ⟨b, 0, rfl, (hM.in_ k b hb).2, fun j u hu => ?_⟩
      have := ha j u hu
      rwa [Addr.add_mid] at this
    · omega
end
theorem strIndex_w {S : St} {k c : Nat} {zs : List D} {K : D → St → Prop} (l : List Str) (x : Str) (hn : l.length ≤ 140737488351232) (hk : S.ob k = some (ownOb 9 (l.map strD) zs c)) (hc : l.length ≤ c) (h : K (.v (.int .i64 (ixI l x))) S) :
    DCalls Try.prog 102 [.win k 0 l.length c, .v (sv x)] S K := fun base η w vs hM hr => by
  simp only [RepL] at hr
  obtain ⟨y, ys, rfl, h1, z, zs, rfl, h2, rfl⟩ := hr
  obtain ⟨A, rfl, hf⟩ := win_scalars sv hM hk hc h1
  simp only [Rep] at h2
  subst h2
  refine .inl ⟨by kernel_rfl, (strIndex_calls l x A c w hf hn).mono fun e w' ⟨he, hw⟩ => ?_⟩
  subst hw
  exact ⟨_, S, η, _, h, idxP_ix he, by simp only [Rep], Goes.refl hM⟩
theorem uIndex_w {S : St} {k c : Nat} {zs : List D} {K : D → St → Prop} (l : List Nat) (x : Nat) (hn : l.length ≤ 140737488351232) (hk : S.ob k = some (ownOb 52 (l.map u64D) zs c)) (hc : l.length ≤ c) (h : K (.v (.int .i64 (ixI l x))) S) :
    DCalls Try.prog 78 [.win k 0 l.length c, .v (uv x)] S K := fun base η w vs hM hr => by
  simp only [RepL] at hr
  obtain ⟨y, ys, rfl, h1, z, zs, rfl, h2, rfl⟩ := hr
  obtain ⟨A, rfl, hf⟩ := win_scalars uv hM hk hc h1
  simp only [Rep] at h2
  subst h2
  refine .inl ⟨by kernel_rfl, (uIndex_calls l x A c w hf hn).mono fun e w' ⟨he, hw⟩ => ?_⟩
  subst hw
  exact ⟨_, S, η, _, h, idxP_ix he, by simp only [Rep], Goes.refl hM⟩
end Go.Proofs.Ytpnjkebjdclkfaa

/- Values, walked: the first name of an owned slice that is above another one. Conditions: none. -/
namespace Go.Proofs.Ytpnjkebjdclkfaa
open Go.RowKit
set_option linter.unusedSimpArgs false
set_option linter.unusedVariables false
/-- Where the first name above x stands, or -1. -/
def gtN (l : List Str) (x : Str) : Nat := l.findIdx fun s => sLt x s
def gtI (l : List Str) (x : Str) : Int := if gtN l x < l.length then (gtN l x : Int) else -1
theorem getD_strs {l : List Str} {zs : List D} {i : Nat} (h : i < l.length) : (flat (l.map strD) ++ zs).getD i undefD = .v (sv l[i]) := by
  have : flat (l.map strD) = l.map strD := flat_vs sv l
  rw [this, List.getD_eq_getElem?_getD, List.getElem?_append_left (by simpa using h), List.getElem?_map, List.getElem?_eq_getElem h]
  rfl
theorem len_strs (l : List Str) (zs : List D) : (flat (l.map strD) ++ zs).length = l.length + zs.length := by
  have : flat (l.map strD) = l.map strD := flat_vs sv l
  rw [this, List.length_append, List.length_map]
theorem gt_sLt (a b : Str) : (!(Op.bytesLess a b || a == b)) = sLt b a := by
  have := leq_not a b
  rw [this]; simp
set_option maxRecDepth 200000 in
set_option maxHeartbeats 4000000 in
theorem idxGt_w {S : St} {k c t : Nat} {zs : List D} {K : D → St → Prop} (l : List Str) (x : Str) (hn : l.length ≤ 1000000) (hk : S.ob k = some (ownOb 9 (l.map strD) zs c)) (hc : l.length ≤ c) (ht : S.ob t = some (.box 9 [.v (sv x)])) (h : K (.v (.int .i64 (gtI l x))) S) :
    DCalls Try.prog 108 [.win k 0 l.length c, .fn (.func 109) [] [.loc t 0]] S K := by
  refine dcalls_inline mixed Try.func108 rfl (fun _ _ => by kernel_rfl) (rs := [.tmp 4]) rfl (by kernel_rfl) (fun hS => ?_)
  (simp (disch := first | decide | omega | (simp only [add_next, set_next, grow_next, leave_next, drop_next, List.length_map]; first | done | omega)) only [go_sem, ↓reduceIte, Nat.reduceBEq, Nat.reduceAdd, Nat.reduceLeDiff, Nat.reduceEqDiff, Nat.reduceLT, Nat.reduceMul]; (repeat (with_reducible refine And.intro (by first | omega | assumption | rfl) ?_)))
  refine dloop_up (fun t => List.contains [4, 5, 8, 9, 10, 11, 12, 13, 14, 15, 16, 17, 18] t) (by kernel_rfl) hS l.length (fun i g T => i ≤ l.length ∧ g 8 = .v (.int .i64 ((i : Nat) : Int)) ∧ (∀ (r : Nat) (hr : r < l.length), r < i → sLt x l[r] = false) ∧ T = S) ⟨by omega, by (first | (simp (disch := first | decide | omega | (simp only [add_next, set_next, grow_next, leave_next, drop_next, List.length_map]; first | done | omega)) only [go_sem, ↓reduceIte, Nat.reduceBEq, Nat.reduceAdd, Nat.reduceLeDiff, Nat.reduceEqDiff, Nat.reduceLT, Nat.reduceMul]; first | done | rfl) | rfl), fun r _ h => by omega, rfl⟩ ?_
  rintro i g T hT hg ⟨le, q8, hno, rfl⟩
  have q0 := hg 0 rfl
  have q1 := hg 1 rfl
  have q7 := hg 7 rfl
  simp (disch := first | decide | omega | (simp only [add_next, set_next, grow_next, leave_next, drop_next, List.length_map]; first | done | omega)) only [go_sem, ↓reduceIte, Nat.reduceBEq, Nat.reduceAdd, Nat.reduceLeDiff, Nat.reduceEqDiff, Nat.reduceLT, Nat.reduceMul] at q0 q1 q7
  clear hg
  by_cases hlt : i < l.length
  · have b1 : decide ((i : Int) < (l.length : Int)) = true := by simp; omega
    have w1 : IntKind.i64.wrap ((i : Int) + 1) = ((i + 1 : Nat) : Int) := IntWalk.i64_in _ ⟨by omega, by omega⟩
    have hk' := hk
    rw [ownOb_box (by omega)] at hk'
    have hg1 := getD_strs (zs := zs) hlt
    have hl1 := len_strs l zs
    (simp (disch := first | decide | omega | (simp only [add_next, set_next, grow_next, leave_next, drop_next, List.length_map]; first | done | omega)) only [go_sem, ↓reduceIte, Nat.reduceBEq, Nat.reduceAdd, Nat.reduceLeDiff, Nat.reduceEqDiff, Nat.reduceLT, Nat.reduceMul, q0, q1, q7, q8, b1, hk', Nat.mul_one, hg1, hl1]; (repeat (with_reducible refine And.intro (by first | omega | assumption | rfl) ?_)))
    refine dcalls_inline mixed Try.func109 rfl (fun _ _ => by kernel_rfl) (rs := [.tmp 3]) rfl (by kernel_rfl) (fun hS => ?_)
    (simp (disch := first | decide | omega | (simp only [add_next, set_next, grow_next, leave_next, drop_next, List.length_map]; first | done | omega)) only [go_sem, ↓reduceIte, Nat.reduceBEq, Nat.reduceAdd, Nat.reduceLeDiff, Nat.reduceEqDiff, Nat.reduceLT, Nat.reduceMul, ht]; (repeat (with_reducible refine And.intro (by first | omega | assumption | rfl) ?_)))
    cases hx : sLt x l[i]
    · have b2 : (!(Op.bytesLess l[i] x || l[i] == x)) = false := by rw [gt_sLt, hx]
      (simp (disch := first | decide | omega | (simp only [add_next, set_next, grow_next, leave_next, drop_next, List.length_map]; first | done | omega)) only [go_sem, ↓reduceIte, Nat.reduceBEq, Nat.reduceAdd, Nat.reduceLeDiff, Nat.reduceEqDiff, Nat.reduceLT, Nat.reduceMul, b2, q8, w1]; (repeat (with_reducible refine And.intro (by first | omega | assumption | rfl) ?_)))
      refine ⟨hlt, T.ob, fun _ _ h => h, by omega, by (first | (simp (disch := first | decide | omega | (simp only [add_next, set_next, grow_next, leave_next, drop_next, List.length_map]; first | done | omega)) only [go_sem, ↓reduceIte, Nat.reduceBEq, Nat.reduceAdd, Nat.reduceLeDiff, Nat.reduceEqDiff, Nat.reduceLT, Nat.reduceMul]; first | done | rfl) | rfl), fun r hr hri => ?_, rfl⟩
      by_cases e : r = i
      · subst e; exact hx
      · exact hno r hr (by omega)
    · have b2 : (!(Op.bytesLess l[i] x || l[i] == x)) = true := by rw [gt_sLt, hx]
      (simp (disch := first | decide | omega | (simp only [add_next, set_next, grow_next, leave_next, drop_next, List.length_map]; first | done | omega)) only [go_sem, ↓reduceIte, Nat.reduceBEq, Nat.reduceAdd, Nat.reduceLeDiff, Nat.reduceEqDiff, Nat.reduceLT, Nat.reduceMul, b2]; (repeat (with_reducible refine And.intro (by first | omega | assumption | rfl) ?_)))
      have e1 : gtN l x = i := (List.findIdx_eq hlt).2 ⟨hx, fun j hj => hno j (by omega) hj⟩
      rw [gtI, e1, if_pos hlt] at h
      exact h
  · have b1 : decide ((i : Int) < (l.length : Int)) = false := by simp; omega
    (simp (disch := first | decide | omega | (simp only [add_next, set_next, grow_next, leave_next, drop_next, List.length_map]; first | done | omega)) only [go_sem, ↓reduceIte, Nat.reduceBEq, Nat.reduceAdd, Nat.reduceLeDiff, Nat.reduceEqDiff, Nat.reduceLT, Nat.reduceMul, q0, q1, q7, q8, b1]; (repeat (with_reducible refine And.intro (by first | omega | assumption | rfl) ?_)))
    have e1 : gtN l x = l.length := List.findIdx_eq_length.2 fun y hy => by
      obtain ⟨j, hj, rfl⟩ := List.getElem_of_mem hy
      exact hno j hj (by omega)
    rw [gtI, e1, if_neg (by omega)] at h
    exact h
end Go.Proofs.Ytpnjkebjdclkfaa

/- Values, walked: a record with a field. Conditions: none. -/
namespace Go.Proofs.Ytpnjkebjdclkfaa
open Go.RowKit
set_option linter.unusedSimpArgs false
set_option linter.unusedVariables false
def DVal.ofFields (v : DVal) (ns : List Str) (ps : List DVal) : DVal := .mk v.kind v.n v.s ns v.ids ps
/-- Where a new name comes in. -/
def atN (l : List Str) (x : Str) : Nat := gtN l x
def withV (v : DVal) (x : Str) (p : DVal) : DVal :=
  if wholeB v = false then v
  else if x ∈ v.names then v.ofFields v.names (v.parts.set (ixN v.names x) p)
  else v.ofFields (v.names.take (atN v.names x) ++ [x] ++ v.names.drop (atN v.names x)) (v.parts.take (atN v.names x) ++ [p] ++ v.parts.drop (atN v.names x))
theorem ownV_upd (v : DVal) (a b c ca cb cc : Nat) : ownV v a b c ca cb cc = .agg [.v (.int .i64 v.kind), .v (.int .i64 v.n), .v (sv v.s), .win a 0 v.names.length ca, .win b 0 v.ids.length cb, .win c 0 v.parts.length cc] := rfl
set_option maxRecDepth 200000 in
set_option maxHeartbeats 8000000 in
theorem with_d (v p : DVal) (x : Str) (hv : v.weight ≤ 100000) (hp : p.weight ≤ 100000) (hx : x.length ≤ maxLen) : DPure Try.prog 79 [encV v, .v (sv x), encV p] (encV (withV v x p)) := fun S => by
  refine dcalls_of_dwp mixed Try.func79 rfl (fun _ _ => by kernel_rfl) (rs := [.cell 6 31]) rfl (by kernel_rfl) (fun hS => ?_)
  (simp (disch := first | decide | omega | (simp only [add_next, set_next, grow_next, leave_next, drop_next, List.length_map]; first | done | omega)) only [go_sem, ↓reduceIte, Nat.reduceBEq, Nat.reduceAdd, Nat.reduceLeDiff, Nat.reduceEqDiff, Nat.reduceLT, Nat.reduceMul]; (repeat (with_reducible refine And.intro (by first | omega | assumption | rfl) ?_)))
  refine copy_o v (by omega) fun T a b c ca cb cc zn zi zp hs hT ha hb hc hO => ?_
  have hsn := hs.next
  simp only [add_next] at hsn ha hb hc
  have hst : S.Sub T := St.Sub.trans (((((St.Sub.refl S).add hS _).add hS _).add hS _).add hS _) hs
  have u3 : T.ob S.next = some (.box 31 (encV v).cells) := hs.ob _ _ (by (first | (simp (disch := first | decide | omega | (simp only [add_next, set_next, grow_next, leave_next, drop_next, List.length_map]; first | done | omega)) only [go_sem, ↓reduceIte, Nat.reduceBEq, Nat.reduceAdd, Nat.reduceLeDiff, Nat.reduceEqDiff, Nat.reduceLT, Nat.reduceMul]; first | done | rfl) | rfl))
  have u4 : T.ob (S.next + 1) = some (.box 9 [.v (sv x)]) := hs.ob _ _ (by (first | (simp (disch := first | decide | omega | (simp only [add_next, set_next, grow_next, leave_next, drop_next, List.length_map]; first | done | omega)) only [go_sem, ↓reduceIte, Nat.reduceBEq, Nat.reduceAdd, Nat.reduceLeDiff, Nat.reduceEqDiff, Nat.reduceLT, Nat.reduceMul]; first | done | rfl) | rfl))
  have u5 : T.ob (S.next + 1 + 1) = some (.box 31 (encV p).cells) := hs.ob _ _ (by (first | (simp (disch := first | decide | omega | (simp only [add_next, set_next, grow_next, leave_next, drop_next, List.length_map]; first | done | omega)) only [go_sem, ↓reduceIte, Nat.reduceBEq, Nat.reduceAdd, Nat.reduceLeDiff, Nat.reduceEqDiff, Nat.reduceLT, Nat.reduceMul]; first | done | rfl) | rfl))
  have u6 : T.ob (S.next + 1 + 1 + 1) = some (.box 31 [.v (.int .i64 0), .v (.int .i64 0), .v (.string ⟨#[]⟩), .sl .full [], .sl .full [], .sl .full []]) := hs.ob _ _ (by (first | (simp (disch := first | decide | omega | (simp only [add_next, set_next, grow_next, leave_next, drop_next, List.length_map]; first | done | omega)) only [go_sem, ↓reduceIte, Nat.reduceBEq, Nat.reduceAdd, Nat.reduceLeDiff, Nat.reduceEqDiff, Nat.reduceLT, Nat.reduceMul]; first | done | rfl) | rfl))
  have hwe := v.weight_eq
  have hpl := partsLen v
  have n1 := ownOb_len (wSs v.names) (by omega) hO.ln
  have n3 := ownOb_len (wVs v.parts) (by omega) hO.lp
  rw [List.length_map] at n1 n3
  have hwh := whole_w v a b c ca cb cc
  rw [ownV] at hwh
  (simp (disch := first | decide | omega | (simp only [add_next, set_next, grow_next, leave_next, drop_next, List.length_map]; first | done | omega)) only [go_sem, ↓reduceIte, Nat.reduceBEq, Nat.reduceAdd, Nat.reduceLeDiff, Nat.reduceEqDiff, Nat.reduceLT, Nat.reduceMul, u3, u4, u5, u6, ownV]; (repeat (with_reducible refine And.intro (by first | omega | assumption | rfl) ?_)))
  refine DCalls.of_pure hwh ?_
  have hOn := hO.obn
  have hOp := hO.obp
  cases hwb : wholeB v with
  | false =>
    (simp (disch := first | decide | omega | (simp only [add_next, set_next, grow_next, leave_next, drop_next, List.length_map]; first | done | omega)) only [go_sem, ↓reduceIte, Nat.reduceBEq, Nat.reduceAdd, Nat.reduceLeDiff, Nat.reduceEqDiff, Nat.reduceLT, Nat.reduceMul, u3, u4, u5, u6]; (repeat (with_reducible refine And.intro (by first | omega | assumption | rfl) ?_)))
    have e0 : withV v x p = v := by rw [withV, if_pos hwb]
    rw [e0]
    refine fin_own (v := v) (zn := zn) (zi := zi) (zp := zp) hS ?_ (by omega) (by omega) (by omega) ⟨?_, hO.ln, ?_, hO.li, ?_, hO.lp, hO.ab, hO.ac, hO.bc⟩
    · exact (hst.set hS (Nat.le_refl _) _).set hS (by omega) _
    · (first | (simp (disch := first | decide | omega | (simp only [add_next, set_next, grow_next, leave_next, drop_next, List.length_map]; first | done | omega)) only [go_sem, ↓reduceIte, Nat.reduceBEq, Nat.reduceAdd, Nat.reduceLeDiff, Nat.reduceEqDiff, Nat.reduceLT, Nat.reduceMul, hOn]; first | done | rfl) | rfl)
    · (first | (simp (disch := first | decide | omega | (simp only [add_next, set_next, grow_next, leave_next, drop_next, List.length_map]; first | done | omega)) only [go_sem, ↓reduceIte, Nat.reduceBEq, Nat.reduceAdd, Nat.reduceLeDiff, Nat.reduceEqDiff, Nat.reduceLT, Nat.reduceMul, hO.obi]; first | done | rfl) | rfl)
    · (first | (simp (disch := first | decide | omega | (simp only [add_next, set_next, grow_next, leave_next, drop_next, List.length_map]; first | done | omega)) only [go_sem, ↓reduceIte, Nat.reduceBEq, Nat.reduceAdd, Nat.reduceLeDiff, Nat.reduceEqDiff, Nat.reduceLT, Nat.reduceMul, hOp]; first | done | rfl) | rfl)
  | true =>
    have hlen : v.names.length ≤ v.parts.length := by
      simp only [wholeB, Bool.and_eq_true, decide_eq_true_eq] at hwb
      exact hwb.2
    (simp (disch := first | decide | omega | (simp only [add_next, set_next, grow_next, leave_next, drop_next, List.length_map]; first | done | omega)) only [go_sem, ↓reduceIte, Nat.reduceBEq, Nat.reduceAdd, Nat.reduceLeDiff, Nat.reduceEqDiff, Nat.reduceLT, Nat.reduceMul, u3, u4, u5, u6]; (repeat (with_reducible refine And.intro (by first | omega | assumption | rfl) ?_)))
    refine strIndex_w v.names x (by omega) (c := ca) (zs := zn) (by (first | (simp (disch := first | decide | omega | (simp only [add_next, set_next, grow_next, leave_next, drop_next, List.length_map]; first | done | omega)) only [go_sem, ↓reduceIte, Nat.reduceBEq, Nat.reduceAdd, Nat.reduceLeDiff, Nat.reduceEqDiff, Nat.reduceLT, Nat.reduceMul, hOn]; first | done | rfl) | rfl)) n1 ?_
    by_cases hm : x ∈ v.names
    · have hi := ix_lt hm
      have b1 : decide (0 ≤ ixI v.names x) = true := by rw [ixI, if_pos hm]; simp
      have e1 : ixI v.names x = (ixN v.names x : Int) := by rw [ixI, if_pos hm]
      have hOp' := hOp
      rw [ownOb_box (by omega)] at hOp'
      have hpl1 : (flat (v.parts.map encV) ++ zp).length = cc * 6 := hO.lp
      (simp (disch := first | decide | omega | (simp only [add_next, set_next, grow_next, leave_next, drop_next, List.length_map]; first | done | omega)) only [go_sem, ↓reduceIte, Nat.reduceBEq, Nat.reduceAdd, Nat.reduceLeDiff, Nat.reduceEqDiff, Nat.reduceLT, Nat.reduceMul, u3, u4, u5, u6, b1, e1]; (repeat (with_reducible refine And.intro (by first | omega | assumption | rfl) ?_)))
      refine ddraw_mk 6 (by kernel_rfl) ?_
      (simp (disch := first | decide | omega | (simp only [add_next, set_next, grow_next, leave_next, drop_next, List.length_map]; first | done | omega)) only [go_sem, ↓reduceIte, Nat.reduceBEq, Nat.reduceAdd, Nat.reduceLeDiff, Nat.reduceEqDiff, Nat.reduceLT, Nat.reduceMul, u3, u4, u5, u6, e1]; (repeat (with_reducible refine And.intro (by first | omega | assumption | rfl) ?_)))
      refine dqgo_mk (copyV_d p.depth p (Nat.le_refl _) (by omega)) ?_
      (simp (disch := first | decide | omega | (simp only [add_next, set_next, grow_next, leave_next, drop_next, List.length_map]; first | done | omega)) only [go_sem, ↓reduceIte, Nat.reduceBEq, Nat.reduceAdd, Nat.reduceLeDiff, Nat.reduceEqDiff, Nat.reduceLT, Nat.reduceMul, u3, u4, u5, u6, e1, hOp', hpl1]; (repeat (with_reducible refine And.intro (by first | omega | assumption | rfl) ?_)))
      have e0 : withV v x p = v.ofFields v.names (v.parts.set (ixN v.names x) p) := by rw [withV, if_neg (by rw [hwb]; simp), if_pos hm]
      have e2 : ownV v a b c ca cb cc = ownV (v.ofFields v.names (v.parts.set (ixN v.names x) p)) a b c ca cb cc := by
        simp only [ownV, DVal.ofFields, DVal.kind, DVal.n, DVal.s, DVal.names, DVal.ids, DVal.parts, List.length_set]
      rw [e0]
      show DFinT _ S _ (ownV v a b c ca cb cc) _
      rw [e2]
      have hi2 : ixN v.names x < (v.parts.map encV).length := by rw [List.length_map]; omega
      refine fin_own (zn := zn) (zi := zi) (zp := zp) hS ?_ (by omega) (by omega) (by omega) ⟨?_, hO.ln, ?_, hO.li, ?_, ?_, hO.ab, hO.ac, hO.bc⟩
      · exact ((hst.set hS (Nat.le_refl _) _).set hS (by omega) _).set hS (by omega) _
      · have := hO.ac
        (first | (simp (disch := first | decide | omega | (simp only [add_next, set_next, grow_next, leave_next, drop_next, List.length_map]; first | done | omega)) only [go_sem, ↓reduceIte, Nat.reduceBEq, Nat.reduceAdd, Nat.reduceLeDiff, Nat.reduceEqDiff, Nat.reduceLT, Nat.reduceMul, hOn]; first | done | rfl) | rfl)
      · have := hO.bc
        (first | (simp (disch := first | decide | omega | (simp only [add_next, set_next, grow_next, leave_next, drop_next, List.length_map]; first | done | omega)) only [go_sem, ↓reduceIte, Nat.reduceBEq, Nat.reduceAdd, Nat.reduceLeDiff, Nat.reduceEqDiff, Nat.reduceLT, Nat.reduceMul, hO.obi]; first | done | rfl) | rfl)
      · have := ownOb_box (e := 31) (es := (v.parts.set (ixN v.names x) p).map encV) (zs := zp) (c := cc) (by omega)
        show _ = some (ownOb 31 ((v.parts.set (ixN v.names x) p).map encV) zp cc)
        rw [this, splice_flat' hi2 (wVs _) (cells_encV p), ← List.map_set]
        (first | (simp (disch := first | decide | omega | (simp only [add_next, set_next, grow_next, leave_next, drop_next, List.length_map]; first | done | omega)) only [go_sem, ↓reduceIte, Nat.reduceBEq, Nat.reduceAdd, Nat.reduceLeDiff, Nat.reduceEqDiff, Nat.reduceLT, Nat.reduceMul]; first | done | rfl) | rfl)
      · show (flat ((v.parts.set (ixN v.names x) p).map encV) ++ zp).length = _
        rw [← hpl1, List.length_append, List.length_append, dflat_length (wVs _), dflat_length (wVs _)]
        simp
    · have b1 : decide (0 ≤ ixI v.names x) = false := by rw [ixI, if_neg hm]; simp
      have e0 : withV v x p = v.ofFields (v.names.take (atN v.names x) ++ [x] ++ v.names.drop (atN v.names x)) (v.parts.take (atN v.names x) ++ [p] ++ v.parts.drop (atN v.names x)) := by rw [withV, if_neg (by rw [hwb]; simp), if_neg hm]
      have hgl : gtN v.names x ≤ v.names.length := List.findIdx_le_length
      rw [e0]
      clear e0
      (simp (disch := first | decide | omega | (simp only [add_next, set_next, grow_next, leave_next, drop_next, List.length_map]; first | done | omega)) only [go_sem, ↓reduceIte, Nat.reduceBEq, Nat.reduceAdd, Nat.reduceLeDiff, Nat.reduceEqDiff, Nat.reduceLT, Nat.reduceMul, u3, u4, u5, u6, b1]; (repeat (with_reducible refine And.intro (by first | omega | assumption | rfl) ?_)))
      refine idxGt_w v.names x (by omega) (c := ca) (zs := zn) (by (first | (simp (disch := first | decide | omega | (simp only [add_next, set_next, grow_next, leave_next, drop_next, List.length_map]; first | done | omega)) only [go_sem, ↓reduceIte, Nat.reduceBEq, Nat.reduceAdd, Nat.reduceLeDiff, Nat.reduceEqDiff, Nat.reduceLT, Nat.reduceMul, hOn]; first | done | rfl) | rfl)) n1 (by (first | (simp (disch := first | decide | omega | (simp only [add_next, set_next, grow_next, leave_next, drop_next, List.length_map]; first | done | omega)) only [go_sem, ↓reduceIte, Nat.reduceBEq, Nat.reduceAdd, Nat.reduceLeDiff, Nat.reduceEqDiff, Nat.reduceLT, Nat.reduceMul, u4]; first | done | rfl) | rfl)) ?_
      obtain ⟨q, hq⟩ : ∃ q, atN v.names x = q := ⟨_, rfl⟩
      have hq2 : gtN v.names x = q := hq
      rw [hq]
      rw [hq2] at hgl
      have hab := hO.ab
      have hac := hO.ac
      have hbc := hO.bc
      have hat : a < T.next := hT.lt hOn
      have hbt : b < T.next := hT.lt hO.obi
      have hct : c < T.next := hT.lt hOp
      by_cases hg : gtN v.names x < v.names.length
      · have b2 : decide ((q : Int) < 0) = false := by simp
        have e3 : gtI v.names x = (q : Int) := by rw [gtI, if_pos hg, hq2]
        (simp (disch := first | decide | omega | (simp only [add_next, set_next, grow_next, leave_next, drop_next, List.length_map]; first | done | omega)) only [go_sem, ↓reduceIte, Nat.reduceBEq, Nat.reduceAdd, Nat.reduceLeDiff, Nat.reduceEqDiff, Nat.reduceLT, Nat.reduceMul, u3, u4, u5, u6, b2, e3]; (repeat (with_reducible refine And.intro (by first | omega | assumption | rfl) ?_)))
        refine ins_str (es := v.names.map strD) (x := .v (sv x)) (zs := zn) (by (first | (simp (disch := first | decide | omega | (simp only [add_next, set_next, grow_next, leave_next, drop_next, List.length_map]; first | done | omega)) only [go_sem, ↓reduceIte, Nat.reduceBEq, Nat.reduceAdd, Nat.reduceLeDiff, Nat.reduceEqDiff, Nat.reduceLT, Nat.reduceMul, hOn]; first | done | rfl) | rfl)) hO.ln (wSs _) rfl (by rw [List.length_map]; omega) (by rw [List.length_map]; omega) (by rw [set_next]; omega) (by rw [List.length_map]) fun ca' zn' hn1 hn2 => ?_
        (simp (disch := first | decide | omega | (simp only [add_next, set_next, grow_next, leave_next, drop_next, List.length_map]; first | done | omega)) only [go_sem, ↓reduceIte, Nat.reduceBEq, Nat.reduceAdd, Nat.reduceLeDiff, Nat.reduceEqDiff, Nat.reduceLT, Nat.reduceMul, u3, u4, u5, u6, e3, hab, hac]; (repeat (with_reducible refine And.intro (by first | omega | assumption | rfl) ?_)))
        refine ddraw_mk 6 (by kernel_rfl) ?_
        (simp (disch := first | decide | omega | (simp only [add_next, set_next, grow_next, leave_next, drop_next, List.length_map]; first | done | omega)) only [go_sem, ↓reduceIte, Nat.reduceBEq, Nat.reduceAdd, Nat.reduceLeDiff, Nat.reduceEqDiff, Nat.reduceLT, Nat.reduceMul, u3, u4, u5, u6, e3, hab, hac]; (repeat (with_reducible refine And.intro (by first | omega | assumption | rfl) ?_)))
        refine dqgo_mk (copyV_d p.depth p (Nat.le_refl _) (by omega)) ?_
        (simp (disch := first | decide | omega | (simp only [add_next, set_next, grow_next, leave_next, drop_next, List.length_map]; first | done | omega)) only [go_sem, ↓reduceIte, Nat.reduceBEq, Nat.reduceAdd, Nat.reduceLeDiff, Nat.reduceEqDiff, Nat.reduceLT, Nat.reduceMul, u3, u4, u5, u6, e3, hab, hac]; (repeat (with_reducible refine And.intro (by first | omega | assumption | rfl) ?_)))
        refine ins_val (es := v.parts.map encV) (x := encV p) (zs := zp) (by (first | (simp (disch := first | decide | omega | (simp only [add_next, set_next, grow_next, leave_next, drop_next, List.length_map]; first | done | omega)) only [go_sem, ↓reduceIte, Nat.reduceBEq, Nat.reduceAdd, Nat.reduceLeDiff, Nat.reduceEqDiff, Nat.reduceLT, Nat.reduceMul, hOp]; first | done | rfl) | rfl)) hO.lp (wVs _) (cells_encV p) (by rw [List.length_map]; omega) (by rw [List.length_map]; omega) (by simp (disch := first | decide | omega | (simp only [add_next, set_next, grow_next, leave_next, drop_next, List.length_map]; first | done | omega)) only [go_sem, ↓reduceIte, Nat.reduceBEq, Nat.reduceAdd, Nat.reduceLeDiff, Nat.reduceEqDiff, Nat.reduceLT, Nat.reduceMul]; first | done | omega) (by rw [List.length_map]) fun cc' zp' hp1 hp2 => ?_
        (simp (disch := first | decide | omega | (simp only [add_next, set_next, grow_next, leave_next, drop_next, List.length_map]; first | done | omega)) only [go_sem, ↓reduceIte, Nat.reduceBEq, Nat.reduceAdd, Nat.reduceLeDiff, Nat.reduceEqDiff, Nat.reduceLT, Nat.reduceMul, u3, u4, u5, u6, e3, hab, hac]; (repeat (with_reducible refine And.intro (by first | omega | assumption | rfl) ?_)))
        have e2 : ownV (v.ofFields (v.names.take q ++ [x] ++ v.names.drop q) (v.parts.take q ++ [p] ++ v.parts.drop q)) T.next b (T.next + 1) ca' cb cc' = .agg [.v (.int .i64 v.kind), .v (.int .i64 v.n), .v (sv v.s), .win T.next 0 (v.names.length + 1) ca', .win b 0 v.ids.length cb, .win (T.next + 1) 0 (v.parts.length + 1) cc'] := by
          have l1 : (v.names.take q ++ [x] ++ v.names.drop q).length = v.names.length + 1 := by simp only [List.length_append, List.length_take, List.length_drop, List.length_cons, List.length_nil]; omega
          have l2 : (v.parts.take q ++ [p] ++ v.parts.drop q).length = v.parts.length + 1 := by simp only [List.length_append, List.length_take, List.length_drop, List.length_cons, List.length_nil]; omega
          simp only [ownV, DVal.ofFields, DVal.kind, DVal.n, DVal.s, DVal.names, DVal.ids, DVal.parts] at *
          rw [l1, l2]
        rw [← e2]
        refine fin_own (zn := zn') (zi := zi) (zp := zp') hS ?_ (by omega) (by omega) (by omega) ⟨?_, ?_, ?_, hO.li, ?_, ?_, by omega, by omega, by omega⟩
        · exact (((((((hst.set hS (Nat.le_refl _) _).drop hS (by omega)).add hS _).set hS (Nat.le_refl _) _).drop hS (by omega)).add hS _).set hS (Nat.le_refl _) _).set hS (by omega) _
        · have E1 : (v.names.take q ++ [x] ++ v.names.drop q).map strD = (v.names.map strD).take q ++ [.v (sv x)] ++ (v.names.map strD).drop q := by simp only [List.map_append, List.map_take, List.map_drop]; rfl
          show _ = some (ownOb 9 ((v.names.take q ++ [x] ++ v.names.drop q).map strD) zn' ca')
          rw [E1]
          (first | (simp (disch := first | decide | omega | (simp only [add_next, set_next, grow_next, leave_next, drop_next, List.length_map]; first | done | omega)) only [go_sem, ↓reduceIte, Nat.reduceBEq, Nat.reduceAdd, Nat.reduceLeDiff, Nat.reduceEqDiff, Nat.reduceLT, Nat.reduceMul]; first | done | rfl) | rfl)
        · have E1 : (v.names.take q ++ [x] ++ v.names.drop q).map strD = (v.names.map strD).take q ++ [.v (sv x)] ++ (v.names.map strD).drop q := by simp only [List.map_append, List.map_take, List.map_drop]; rfl
          show (flat ((v.names.take q ++ [x] ++ v.names.drop q).map strD) ++ zn').length = _
          rw [E1]
          exact hn2
        · (first | (simp (disch := first | decide | omega | (simp only [add_next, set_next, grow_next, leave_next, drop_next, List.length_map]; first | done | omega)) only [go_sem, ↓reduceIte, Nat.reduceBEq, Nat.reduceAdd, Nat.reduceLeDiff, Nat.reduceEqDiff, Nat.reduceLT, Nat.reduceMul, hO.obi]; first | done | rfl) | rfl)
        · have E1 : (v.parts.take q ++ [p] ++ v.parts.drop q).map encV = (v.parts.map encV).take q ++ [encV p] ++ (v.parts.map encV).drop q := by simp only [List.map_append, List.map_take, List.map_drop]; rfl
          show _ = some (ownOb 31 ((v.parts.take q ++ [p] ++ v.parts.drop q).map encV) zp' cc')
          rw [E1]
          (first | (simp (disch := first | decide | omega | (simp only [add_next, set_next, grow_next, leave_next, drop_next, List.length_map]; first | done | omega)) only [go_sem, ↓reduceIte, Nat.reduceBEq, Nat.reduceAdd, Nat.reduceLeDiff, Nat.reduceEqDiff, Nat.reduceLT, Nat.reduceMul]; first | done | rfl) | rfl)
        · have E1 : (v.parts.take q ++ [p] ++ v.parts.drop q).map encV = (v.parts.map encV).take q ++ [encV p] ++ (v.parts.map encV).drop q := by simp only [List.map_append, List.map_take, List.map_drop]; rfl
          show (flat ((v.parts.take q ++ [p] ++ v.parts.drop q).map encV) ++ zp').length = _
          rw [E1]
          exact hp2
      · have b2 : decide (gtI v.names x < 0) = true := by rw [gtI, if_neg hg]; decide
        have e3 : (v.names.length : Int) = (q : Int) := by rw [hq2] at hg; omega
        (simp (disch := first | decide | omega | (simp only [add_next, set_next, grow_next, leave_next, drop_next, List.length_map]; first | done | omega)) only [go_sem, ↓reduceIte, Nat.reduceBEq, Nat.reduceAdd, Nat.reduceLeDiff, Nat.reduceEqDiff, Nat.reduceLT, Nat.reduceMul, u3, u4, u5, u6, b2]; (repeat (with_reducible refine And.intro (by first | omega | assumption | rfl) ?_)))
        rw [e3]
        refine ins_str (es := v.names.map strD) (x := .v (sv x)) (zs := zn) (by (first | (simp (disch := first | decide | omega | (simp only [add_next, set_next, grow_next, leave_next, drop_next, List.length_map]; first | done | omega)) only [go_sem, ↓reduceIte, Nat.reduceBEq, Nat.reduceAdd, Nat.reduceLeDiff, Nat.reduceEqDiff, Nat.reduceLT, Nat.reduceMul, hOn]; first | done | rfl) | rfl)) hO.ln (wSs _) rfl (by rw [List.length_map]; omega) (by rw [List.length_map]; omega) (by rw [set_next]; omega) (by rw [List.length_map]) fun ca' zn' hn1 hn2 => ?_
        (simp (disch := first | decide | omega | (simp only [add_next, set_next, grow_next, leave_next, drop_next, List.length_map]; first | done | omega)) only [go_sem, ↓reduceIte, Nat.reduceBEq, Nat.reduceAdd, Nat.reduceLeDiff, Nat.reduceEqDiff, Nat.reduceLT, Nat.reduceMul, u3, u4, u5, u6, e3, hab, hac]; (repeat (with_reducible refine And.intro (by first | omega | assumption | rfl) ?_)))
        refine ddraw_mk 6 (by kernel_rfl) ?_
        (simp (disch := first | decide | omega | (simp only [add_next, set_next, grow_next, leave_next, drop_next, List.length_map]; first | done | omega)) only [go_sem, ↓reduceIte, Nat.reduceBEq, Nat.reduceAdd, Nat.reduceLeDiff, Nat.reduceEqDiff, Nat.reduceLT, Nat.reduceMul, u3, u4, u5, u6, e3, hab, hac]; (repeat (with_reducible refine And.intro (by first | omega | assumption | rfl) ?_)))
        refine dqgo_mk (copyV_d p.depth p (Nat.le_refl _) (by omega)) ?_
        (simp (disch := first | decide | omega | (simp only [add_next, set_next, grow_next, leave_next, drop_next, List.length_map]; first | done | omega)) only [go_sem, ↓reduceIte, Nat.reduceBEq, Nat.reduceAdd, Nat.reduceLeDiff, Nat.reduceEqDiff, Nat.reduceLT, Nat.reduceMul, u3, u4, u5, u6, e3, hab, hac]; (repeat (with_reducible refine And.intro (by first | omega | assumption | rfl) ?_)))
        refine ins_val (es := v.parts.map encV) (x := encV p) (zs := zp) (by (first | (simp (disch := first | decide | omega | (simp only [add_next, set_next, grow_next, leave_next, drop_next, List.length_map]; first | done | omega)) only [go_sem, ↓reduceIte, Nat.reduceBEq, Nat.reduceAdd, Nat.reduceLeDiff, Nat.reduceEqDiff, Nat.reduceLT, Nat.reduceMul, hOp]; first | done | rfl) | rfl)) hO.lp (wVs _) (cells_encV p) (by rw [List.length_map]; omega) (by rw [List.length_map]; omega) (by simp (disch := first | decide | omega | (simp only [add_next, set_next, grow_next, leave_next, drop_next, List.length_map]; first | done | omega)) only [go_sem, ↓reduceIte, Nat.reduceBEq, Nat.reduceAdd, Nat.reduceLeDiff, Nat.reduceEqDiff, Nat.reduceLT, Nat.reduceMul]; first | done | omega) (by rw [List.length_map]) fun cc' zp' hp1 hp2 => ?_
        (simp (disch := first | decide | omega | (simp only [add_next, set_next, grow_next, leave_next, drop_next, List.length_map]; first | done | omega)) only [go_sem, ↓reduceIte, Nat.reduceBEq, Nat.reduceAdd, Nat.reduceLeDiff, Nat.reduceEqDiff, Nat.reduceLT, Nat.reduceMul, u3, u4, u5, u6, e3, hab, hac]; (repeat (with_reducible refine And.intro (by first | omega | assumption | rfl) ?_)))
        have e2 : ownV (v.ofFields (v.names.take q ++ [x] ++ v.names.drop q) (v.parts.take q ++ [p] ++ v.parts.drop q)) T.next b (T.next + 1) ca' cb cc' = .agg [.v (.int .i64 v.kind), .v (.int .i64 v.n), .v (sv v.s), .win T.next 0 (v.names.length + 1) ca', .win b 0 v.ids.length cb, .win (T.next + 1) 0 (v.parts.length + 1) cc'] := by
          have l1 : (v.names.take q ++ [x] ++ v.names.drop q).length = v.names.length + 1 := by simp only [List.length_append, List.length_take, List.length_drop, List.length_cons, List.length_nil]; omega
          have l2 : (v.parts.take q ++ [p] ++ v.parts.drop q).length = v.parts.length + 1 := by simp only [List.length_append, List.length_take, List.length_drop, List.length_cons, List.length_nil]; omega
          simp only [ownV, DVal.ofFields, DVal.kind, DVal.n, DVal.s, DVal.names, DVal.ids, DVal.parts] at *
          rw [l1, l2]
        rw [← e2]
        refine fin_own (zn := zn') (zi := zi) (zp := zp') hS ?_ (by omega) (by omega) (by omega) ⟨?_, ?_, ?_, hO.li, ?_, ?_, by omega, by omega, by omega⟩
        · exact (((((((hst.set hS (Nat.le_refl _) _).drop hS (by omega)).add hS _).set hS (Nat.le_refl _) _).drop hS (by omega)).add hS _).set hS (Nat.le_refl _) _).set hS (by omega) _
        · have E1 : (v.names.take q ++ [x] ++ v.names.drop q).map strD = (v.names.map strD).take q ++ [.v (sv x)] ++ (v.names.map strD).drop q := by simp only [List.map_append, List.map_take, List.map_drop]; rfl
          show _ = some (ownOb 9 ((v.names.take q ++ [x] ++ v.names.drop q).map strD) zn' ca')
          rw [E1]
          (first | (simp (disch := first | decide | omega | (simp only [add_next, set_next, grow_next, leave_next, drop_next, List.length_map]; first | done | omega)) only [go_sem, ↓reduceIte, Nat.reduceBEq, Nat.reduceAdd, Nat.reduceLeDiff, Nat.reduceEqDiff, Nat.reduceLT, Nat.reduceMul]; first | done | rfl) | rfl)
        · have E1 : (v.names.take q ++ [x] ++ v.names.drop q).map strD = (v.names.map strD).take q ++ [.v (sv x)] ++ (v.names.map strD).drop q := by simp only [List.map_append, List.map_take, List.map_drop]; rfl
          show (flat ((v.names.take q ++ [x] ++ v.names.drop q).map strD) ++ zn').length = _
          rw [E1]
          exact hn2
        · (first | (simp (disch := first | decide | omega | (simp only [add_next, set_next, grow_next, leave_next, drop_next, List.length_map]; first | done | omega)) only [go_sem, ↓reduceIte, Nat.reduceBEq, Nat.reduceAdd, Nat.reduceLeDiff, Nat.reduceEqDiff, Nat.reduceLT, Nat.reduceMul, hO.obi]; first | done | rfl) | rfl)
        · have E1 : (v.parts.take q ++ [p] ++ v.parts.drop q).map encV = (v.parts.map encV).take q ++ [encV p] ++ (v.parts.map encV).drop q := by simp only [List.map_append, List.map_take, List.map_drop]; rfl
          show _ = some (ownOb 31 ((v.parts.take q ++ [p] ++ v.parts.drop q).map encV) zp' cc')
          rw [E1]
          (first | (simp (disch := first | decide | omega | (simp only [add_next, set_next, grow_next, leave_next, drop_next, List.length_map]; first | done | omega)) only [go_sem, ↓reduceIte, Nat.reduceBEq, Nat.reduceAdd, Nat.reduceLeDiff, Nat.reduceEqDiff, Nat.reduceLT, Nat.reduceMul]; first | done | rfl) | rfl)
        · have E1 : (v.parts.take q ++ [p] ++ v.parts.drop q).map encV = (v.parts.map encV).take q ++ [encV p] ++ (v.parts.map encV).drop q := by simp only [List.map_append, List.map_take, List.map_drop]; rfl
          show (flat ((v.parts.take q ++ [p] ++ v.parts.drop q).map encV) ++ zp').length = _
          rw [E1]
          exact hp2
end Go.Proofs.Ytpnjkebjdclkfaa

/- Values, walked: the record of fields. Conditions: none. -/
namespace Go.Proofs.Ytpnjkebjdclkfaa
open Go.RowKit
set_option linter.unusedSimpArgs false
set_option linter.unusedVariables false
def recV0 : DVal := .mk 5 0 [] [] [] []
def recV (l : List Str) (ps : List DVal) : Nat → DVal
  | 0 => recV0
  | i + 1 => withV (recV l ps i) (l.getD i []) (ps.getD i default)
theorem ofFields_weight (v : DVal) (ns : List Str) (ps : List DVal) : (v.ofFields ns ps).weight = 1 + ns.length + v.ids.length + DVal.weights ps := by rw [DVal.weight_eq]; rfl
theorem withV_weight (v p : DVal) (x : Str) : (withV v x p).weight ≤ v.weight + 1 + p.weight := by
  have hw : ∀ l m : List DVal, DVal.weights (l ++ m) = DVal.weights l + DVal.weights m := fun l m => by
    induction l with
    | nil => simp [DVal.weights]
    | cons a l ih => simp only [List.cons_append, DVal.weights, ih]; omega
  have hs : ∀ (l : List DVal) (i : Nat), DVal.weights (l.set i p) ≤ DVal.weights l + p.weight := fun l => by
    induction l with
    | nil => intro i; simp [DVal.weights]
    | cons a l ih =>
      intro i
      cases i with
      | zero => simp only [List.set_cons_zero, DVal.weights]; omega
      | succ i => simp only [List.set_cons_succ, DVal.weights]; have := ih i; omega
  have hv := v.weight_eq
  unfold withV
  split
  · omega
  · split
    · rw [ofFields_weight]
      have := hs v.parts (ixN v.names x)
      omega
    · rw [ofFields_weight]
      have e : DVal.weights (v.parts.take (atN v.names x)) + DVal.weights (v.parts.drop (atN v.names x)) = DVal.weights v.parts := by rw [← hw, List.take_append_drop]
      have e2 : (v.names.take (atN v.names x) ++ [x] ++ v.names.drop (atN v.names x)).length = v.names.length + 1 := by
        have : atN v.names x ≤ v.names.length := List.findIdx_le_length
        simp only [List.length_append, List.length_take, List.length_drop, List.length_cons, List.length_nil]; omega
      rw [e2, hw, hw]
      simp only [DVal.weights]
      omega
theorem recV_weight (l : List Str) (ps : List DVal) (m : Nat) (h : ∀ p ∈ ps, p.weight ≤ m) : ∀ i, i ≤ ps.length → (recV l ps i).weight ≤ 1 + i * (m + 1)
  | 0, _ => by simp [recV, recV0, DVal.weight_eq, DVal.names, DVal.ids, DVal.parts, DVal.weights]
  | i + 1, hi => by
    have h1 := recV_weight l ps m h i (by omega)
    have h2 := withV_weight (recV l ps i) (ps.getD i default) (l.getD i [])
    have h3 := h _ (List.getElem_mem (show i < ps.length from hi))
    have e : ps.getD i default = ps[i] := getD_at hi
    rw [e] at h2
    show (withV _ _ _).weight ≤ _
    rw [e]
    rw [Nat.add_mul]
    omega
set_option maxRecDepth 200000 in
set_option maxHeartbeats 4000000 in
theorem record_d (own own2 : Own) (l : List Str) (ps : List DVal) (hl : l.length ≤ 1000) (hp : ps.length ≤ 20) (hw : ∀ p ∈ ps, p.weight ≤ 4000) (hx : ∀ x ∈ l, x.length ≤ maxLen) : DPure Try.prog 42 [.sl own (l.map strD), .sl own2 (ps.map encV)] (encV (recV l ps (min l.length ps.length))) := by
  refine dpure_of_dwp mixed Try.func42 rfl (fun _ _ => by kernel_rfl) (rs := [.cell 4 31]) rfl (by kernel_rfl) (closed_encV _) (fun S hS => ?_)
  have hmin : (if (ps.length : Int) < (l.length : Int) then (ps.length : Int) else (l.length : Int)) = ((min l.length ps.length : Nat) : Int) := by split <;> omega
  obtain ⟨n, hn⟩ : ∃ n, min l.length ps.length = n := ⟨_, rfl⟩
  have hn1 : n ≤ l.length := by omega
  have hn2 : n ≤ ps.length := by omega
  rw [hn] at hmin ⊢
  (simp (disch := first | decide | omega | (simp only [add_next, set_next, grow_next, leave_next, drop_next, List.length_map]; first | done | omega)) only [go_sem, ↓reduceIte, Nat.reduceBEq, Nat.reduceAdd, Nat.reduceLeDiff, Nat.reduceEqDiff, Nat.reduceLT, Nat.reduceMul, hmin]; (repeat (with_reducible refine And.intro (by first | omega | assumption | rfl) ?_)))
  have e0 : (encV (recV l ps 0)).cells = [.v (.int .i64 5), .v (.int .i64 0), .v (sv []), .sl .no [], .sl .no [], .sl .no []] := by rw [recV, recV0, encV_eq]; rfl
  refine dloop_up (fun t => List.contains [6, 13, 14, 15, 16, 17, 18, 19, 20, 21, 22, 23, 24, 25, 26] t) (by kernel_rfl) (by exact (by (repeat' first | assumption | refine St.WF.leave ?_ _ | refine St.WF.add ?_ _ | refine St.WF.set ?_ ?_ _ | refine St.WF.grow ?_ _ _ _ | refine St.WF.keep ?_ ?_ | (first | omega | (simp only [RowOk.lo, add_next, set_next, grow_next, leave_next, drop_next]; first | done | omega))))) n (fun i g T => i ≤ n ∧ g 13 = .v (.int .i64 ((i : Nat) : Int)) ∧ (i = 0 ∧ T.ob (S.next + 1) = some (.box 31 [.v (.int .i64 5), .v (.int .i64 0), .v (.string ⟨#[]⟩), .sl .full [], .sl .full [], .sl .full []]) ∨ 0 < i ∧ T.ob (S.next + 1) = some (.box 31 (encV (recV l ps i)).cells)) ∧ (∃ cs, cs.length = 6 ∧ T.ob S.next = some (.box 31 cs)) ∧ S.Sub T ∧ S.next + 1 < T.next) ⟨by omega, by (first | (simp (disch := first | decide | omega | (simp only [add_next, set_next, grow_next, leave_next, drop_next, List.length_map]; first | done | omega)) only [go_sem, ↓reduceIte, Nat.reduceBEq, Nat.reduceAdd, Nat.reduceLeDiff, Nat.reduceEqDiff, Nat.reduceLT, Nat.reduceMul]; first | done | rfl) | rfl), .inl ⟨rfl, by (first | (simp (disch := first | decide | omega | (simp only [add_next, set_next, grow_next, leave_next, drop_next, List.length_map]; first | done | omega)) only [go_sem, ↓reduceIte, Nat.reduceBEq, Nat.reduceAdd, Nat.reduceLeDiff, Nat.reduceEqDiff, Nat.reduceLT, Nat.reduceMul]; first | done | rfl) | rfl)⟩, ⟨_, rfl, by (first | (simp (disch := first | decide | omega | (simp only [add_next, set_next, grow_next, leave_next, drop_next, List.length_map]; first | done | omega)) only [go_sem, ↓reduceIte, Nat.reduceBEq, Nat.reduceAdd, Nat.reduceLeDiff, Nat.reduceEqDiff, Nat.reduceLT, Nat.reduceMul]; first | done | rfl) | rfl)⟩, by exact (by (repeat' first | assumption | exact St.Sub.refl _ | exact RowOk.sub (by assumption) (by assumption) | refine St.Sub.trans ?_ (RowOk.sub (by assumption) (by assumption)) | refine St.Sub.add ?_ ?_ _ | refine St.Sub.set ?_ ?_ ?_ _ | refine St.Sub.keep ?_ ?_ | refine St.WF.leave ?_ _ | refine St.WF.add ?_ _ | refine St.WF.set ?_ ?_ _ | refine St.WF.grow ?_ _ _ _ | refine St.WF.keep ?_ ?_ | (first | omega | (simp only [RowOk.lo, add_next, set_next, grow_next, leave_next, drop_next]; first | done | omega)))), by simp only [add_next, set_next]; omega⟩ ?_
  rintro i g T hT hg ⟨le, q13, hx1, ⟨cs, hcs, hx0⟩, hs, hsn⟩
  have q0 := hg 0 rfl
  have q1 := hg 1 rfl
  have q4 := hg 4 rfl
  have q5 := hg 5 rfl
  have q12 := hg 12 rfl
  simp (disch := first | decide | omega | (simp only [add_next, set_next, grow_next, leave_next, drop_next, List.length_map]; first | done | omega)) only [go_sem, ↓reduceIte, Nat.reduceBEq, Nat.reduceAdd, Nat.reduceLeDiff, Nat.reduceEqDiff, Nat.reduceLT, Nat.reduceMul, hmin] at q0 q1 q4 q5 q12
  clear hg
  have hrw := recV_weight l ps 4000 hw i (by omega)
  have hrw2 : i * 4001 ≤ 20 * 4001 := Nat.mul_le_mul_right _ (by omega)
  by_cases hlt : i < n
  · have b5 : decide ((i : Int) < (n : Int)) = true := by simp; omega
    have w1 : IntKind.i64.wrap ((i : Int) + 1) = ((i + 1 : Nat) : Int) := IntWalk.i64_in _ ⟨by omega, by omega⟩
    have hi1 : i < l.length := by omega
    have hi2 : i < ps.length := by omega
    have g1 := getD_map strD l i hi1
    have g2 := getD_map encV ps i hi2
    have hwd := with_d (recV l ps i) ps[i] l[i] (by omega) (by have := hw _ (List.getElem_mem hi2); omega) (hx _ (List.getElem_mem hi1))
    have er : recV l ps (i + 1) = withV (recV l ps i) l[i] ps[i] := by rw [recV, getD_at hi1, getD_at hi2]
    rcases hx1 with ⟨h0, hx1⟩ | ⟨_, hx1⟩
    · have hr0 : recV l ps i = recV0 := by rw [h0]; rfl
      (simp (disch := first | decide | omega | (simp only [add_next, set_next, grow_next, leave_next, drop_next, List.length_map]; first | done | omega)) only [go_sem, ↓reduceIte, Nat.reduceBEq, Nat.reduceAdd, Nat.reduceLeDiff, Nat.reduceEqDiff, Nat.reduceLT, Nat.reduceMul, q0, q1, q5, q12, q13, b5]; (repeat (with_reducible refine And.intro (by first | omega | assumption | rfl) ?_)))
      refine ddraw_mk 10 (by kernel_rfl) ?_
      (simp (disch := first | decide | omega | (simp only [add_next, set_next, grow_next, leave_next, drop_next, List.length_map]; first | done | omega)) only [go_sem, ↓reduceIte, Nat.reduceBEq, Nat.reduceAdd, Nat.reduceLeDiff, Nat.reduceEqDiff, Nat.reduceLT, Nat.reduceMul, q0, q1, q5, q12, q13, hx1, g1, g2]; (repeat (with_reducible refine And.intro (by first | omega | assumption | rfl) ?_)))
      refine dqgo_mk (DPure.weak hwd (by rw [hr0]; simp only [frzL, frz_encV]; rfl)) ?_
      (simp (disch := first | decide | omega | (simp only [add_next, set_next, grow_next, leave_next, drop_next, List.length_map]; first | done | omega)) only [go_sem, ↓reduceIte, Nat.reduceBEq, Nat.reduceAdd, Nat.reduceLeDiff, Nat.reduceEqDiff, Nat.reduceLT, Nat.reduceMul, q0, q1, q5, q12, q13, hx1, g1, g2, w1]; (repeat (with_reducible refine And.intro (by first | omega | assumption | rfl) ?_)))
      rw [← er]
      refine ⟨hlt, _, fun _ _ h => h, by omega, by (first | (simp (disch := first | decide | omega | (simp only [add_next, set_next, grow_next, leave_next, drop_next, List.length_map]; first | done | omega)) only [go_sem, ↓reduceIte, Nat.reduceBEq, Nat.reduceAdd, Nat.reduceLeDiff, Nat.reduceEqDiff, Nat.reduceLT, Nat.reduceMul]; first | done | rfl) | rfl), .inr ⟨by omega, ?_⟩, ⟨cs, hcs, ?_⟩, ?_, ?_⟩
      · show (if S.next + 1 = S.next + 1 then _ else _) = _
        rw [if_pos rfl]
      · show (if S.next = S.next + 1 then _ else _) = _
        rw [if_neg (by omega)]; exact hx0
      · exact hs.set hS (by omega) _
      · exact hsn
    · (simp (disch := first | decide | omega | (simp only [add_next, set_next, grow_next, leave_next, drop_next, List.length_map]; first | done | omega)) only [go_sem, ↓reduceIte, Nat.reduceBEq, Nat.reduceAdd, Nat.reduceLeDiff, Nat.reduceEqDiff, Nat.reduceLT, Nat.reduceMul, q0, q1, q5, q12, q13, b5]; (repeat (with_reducible refine And.intro (by first | omega | assumption | rfl) ?_)))
      refine ddraw_mk 10 (by kernel_rfl) ?_
      (simp (disch := first | decide | omega | (simp only [add_next, set_next, grow_next, leave_next, drop_next, List.length_map]; first | done | omega)) only [go_sem, ↓reduceIte, Nat.reduceBEq, Nat.reduceAdd, Nat.reduceLeDiff, Nat.reduceEqDiff, Nat.reduceLT, Nat.reduceMul, q0, q1, q5, q12, q13, hx1, g1, g2]; (repeat (with_reducible refine And.intro (by first | omega | assumption | rfl) ?_)))
      refine dqgo_mk hwd ?_
      (simp (disch := first | decide | omega | (simp only [add_next, set_next, grow_next, leave_next, drop_next, List.length_map]; first | done | omega)) only [go_sem, ↓reduceIte, Nat.reduceBEq, Nat.reduceAdd, Nat.reduceLeDiff, Nat.reduceEqDiff, Nat.reduceLT, Nat.reduceMul, q0, q1, q5, q12, q13, hx1, g1, g2, w1]; (repeat (with_reducible refine And.intro (by first | omega | assumption | rfl) ?_)))
      rw [← er]
      refine ⟨hlt, _, fun _ _ h => h, by omega, by (first | (simp (disch := first | decide | omega | (simp only [add_next, set_next, grow_next, leave_next, drop_next, List.length_map]; first | done | omega)) only [go_sem, ↓reduceIte, Nat.reduceBEq, Nat.reduceAdd, Nat.reduceLeDiff, Nat.reduceEqDiff, Nat.reduceLT, Nat.reduceMul]; first | done | rfl) | rfl), .inr ⟨by omega, ?_⟩, ⟨cs, hcs, ?_⟩, ?_, ?_⟩
      · show (if S.next + 1 = S.next + 1 then _ else _) = _
        rw [if_pos rfl]
      · show (if S.next = S.next + 1 then _ else _) = _
        rw [if_neg (by omega)]; exact hx0
      · exact hs.set hS (by omega) _
      · exact hsn
  · have b5 : decide ((i : Int) < (n : Int)) = false := by simp; omega
    obtain rfl : i = n := by omega
    have hd6 : List.drop 6 cs = [] := List.drop_of_length_le (by omega)
    rcases hx1 with ⟨h0, hx1⟩ | ⟨_, hx1⟩
    · have hr0 : recV l ps i = recV0 := by rw [h0]; rfl
      (simp (disch := first | decide | omega | (simp only [add_next, set_next, grow_next, leave_next, drop_next, List.length_map]; first | done | omega)) only [go_sem, ↓reduceIte, Nat.reduceBEq, Nat.reduceAdd, Nat.reduceLeDiff, Nat.reduceEqDiff, Nat.reduceLT, Nat.reduceMul, q0, q1, q5, q12, q13, b5, q4, hx0, hx1, hcs, hd6]; (repeat (with_reducible refine And.intro (by first | omega | assumption | rfl) ?_)))
      rw [hr0]
      refine ⟨?_, hs.set hS (Nat.le_refl _) _⟩
      rw [recV0, encV_eq]; rfl
    · (simp (disch := first | decide | omega | (simp only [add_next, set_next, grow_next, leave_next, drop_next, List.length_map]; first | done | omega)) only [go_sem, ↓reduceIte, Nat.reduceBEq, Nat.reduceAdd, Nat.reduceLeDiff, Nat.reduceEqDiff, Nat.reduceLT, Nat.reduceMul, q0, q1, q5, q12, q13, b5, q4, hx0, hx1, hcs, hd6]; (repeat (with_reducible refine And.intro (by first | omega | assumption | rfl) ?_)))
      exact ⟨frz_encV _, hs.set hS (Nat.le_refl _) _⟩
end Go.Proofs.Ytpnjkebjdclkfaa

/- Paths, walked: Get, Put. Conditions: none. -/
namespace Go.Proofs.Ytpnjkebjdclkfaa
open Go.RowKit
set_option linter.unusedSimpArgs false
theorem chV_id : ∀ (ps : List DStp) (v : DVal), chV id ps v = v
  | [], v => rfl
  | p :: ps, v => by
    rw [chV]
    split
    · rename_i h
      have hpl : plN v p < v.parts.length := by have := h.1; have := h.2; unfold plN; omega
      rw [chV_id ps, getD_at hpl, List.set_getElem_self]
      obtain ⟨k, n, s, ns, is, l⟩ := v
      rfl
    · rfl
def getD_ (v : DVal) (ps : List DStp) : D := .tup [encV ((getV ps v).getD zeroV), .v (.bool (getV ps v).isSome)]
theorem zeroV_frz : (D.agg [.v (.int .i64 0), .v (.int .i64 0), .v (.string ⟨#[]⟩), .sl .full [], .sl .full [], .sl .full []]).frz = encV zeroV := rfl
set_option maxRecDepth 200000 in
set_option maxHeartbeats 8000000 in
theorem get_d (v : DVal) (ps : List DStp) (own : Own) (hok : okV v) (hw : v.weight ≤ 1000000) (hl : ps.length ≤ 1000000) : DPure Try.prog 29 [encV v, .sl own (ps.map encP)] (getD_ v ps) := by
  refine dpure_of_dwp mixed Try.func29 rfl (fun _ _ => by kernel_rfl) (rs := [.cell 4 31, .tmp 5]) rfl (by kernel_rfl) (closed_res _ _) (fun S hS => ?_)
  (simp (disch := first | decide | omega | (simp only [add_next, set_next, grow_next, leave_next, drop_next, List.length_map]; first | done | omega)) only [go_sem, ↓reduceIte, Nat.reduceBEq, Nat.reduceAdd, Nat.reduceLeDiff, Nat.reduceEqDiff, Nat.reduceLT, Nat.reduceMul]; (repeat (with_reducible refine And.intro (by first | omega | assumption | rfl) ?_)))
  refine (change_d 68 [] [.loc (S.next + 1 + 1) 0] id (some (S.next + 1 + 1)) ps own v _ hok hw hl ⟨fun j hj => ?_, fun S' u hs hS' hu => ?_⟩).mono ?_
  · injection hj with hj
    subst hj
    simp (disch := first | decide | omega | (simp only [add_next, set_next, grow_next, leave_next, drop_next, List.length_map]; first | done | omega)) only [go_sem, ↓reduceIte, Nat.reduceBEq, Nat.reduceAdd, Nat.reduceLeDiff, Nat.reduceEqDiff, Nat.reduceLT, Nat.reduceMul]
    omega
  · exact get1_d S' _ _ (hs.ob _ _ (by simp (disch := first | decide | omega | (simp only [add_next, set_next, grow_next, leave_next, drop_next, List.length_map]; first | done | omega)) only [go_sem, ↓reduceIte, Nat.reduceBEq, Nat.reduceAdd, Nat.reduceLeDiff, Nat.reduceEqDiff, Nat.reduceLT, Nat.reduceMul]; rfl)) rfl u hu
  · rintro d T ⟨rfl, rfl⟩
    unfold getD_
    cases hg : getV ps v with
    | none =>
      (simp (disch := first | decide | omega | (simp only [add_next, set_next, grow_next, leave_next, drop_next, List.length_map]; first | done | omega)) only [go_sem, ↓reduceIte, Nat.reduceBEq, Nat.reduceAdd, Nat.reduceLeDiff, Nat.reduceEqDiff, Nat.reduceLT, Nat.reduceMul, leftS]; (repeat (with_reducible refine And.intro (by first | omega | assumption | rfl) ?_)))
      refine ⟨?_, (by (repeat' first | assumption | exact St.Sub.refl _ | exact RowOk.sub (by assumption) (by assumption) | refine St.Sub.trans ?_ (RowOk.sub (by assumption) (by assumption)) | refine St.Sub.add ?_ ?_ _ | refine St.Sub.set ?_ ?_ ?_ _ | refine St.Sub.keep ?_ ?_ | refine St.WF.leave ?_ _ | refine St.WF.add ?_ _ | refine St.WF.set ?_ ?_ _ | refine St.WF.grow ?_ _ _ _ | refine St.WF.keep ?_ ?_ | (first | omega | (simp only [RowOk.lo, add_next, set_next, grow_next, leave_next, drop_next]; first | done | omega))))⟩
      rfl
    | some u =>
      (simp (disch := first | decide | omega | (simp only [add_next, set_next, grow_next, leave_next, drop_next, List.length_map]; first | done | omega)) only [go_sem, ↓reduceIte, Nat.reduceBEq, Nat.reduceAdd, Nat.reduceLeDiff, Nat.reduceEqDiff, Nat.reduceLT, Nat.reduceMul, leftS]; (repeat (with_reducible refine And.intro (by first | omega | assumption | rfl) ?_)))
      refine ⟨?_, (by (repeat' first | assumption | exact St.Sub.refl _ | exact RowOk.sub (by assumption) (by assumption) | refine St.Sub.trans ?_ (RowOk.sub (by assumption) (by assumption)) | refine St.Sub.add ?_ ?_ _ | refine St.Sub.set ?_ ?_ ?_ _ | refine St.Sub.keep ?_ ?_ | refine St.WF.leave ?_ _ | refine St.WF.add ?_ _ | refine St.WF.set ?_ ?_ _ | refine St.WF.grow ?_ _ _ _ | refine St.WF.keep ?_ ?_ | (first | omega | (simp only [RowOk.lo, add_next, set_next, grow_next, leave_next, drop_next]; first | done | omega))))⟩
      simp only [D.frz, frzL, frz_encV]
      rfl
set_option maxRecDepth 200000 in
set_option maxHeartbeats 8000000 in
theorem put1_d (S : St) (j : Nat) (x u : DVal) (hc : S.ob j = some (.box 31 (encV x).cells)) : DCalls Try.prog 71 [encV u, .loc j 0] S (fun d S' => d = encV x ∧ S' = S) := by
  refine dcalls_of_dwp mixed Try.func71 rfl (fun _ _ => by kernel_rfl) (rs := [.cell 3 31]) rfl (by kernel_rfl) (fun hS => ?_)
  have hlt := hS.lt hc
  (simp (disch := first | decide | omega | (simp only [add_next, set_next, grow_next, leave_next, drop_next, List.length_map]; first | done | omega)) only [go_sem, ↓reduceIte, Nat.reduceBEq, Nat.reduceAdd, Nat.reduceLeDiff, Nat.reduceEqDiff, Nat.reduceLT, Nat.reduceMul, hc]; (repeat (with_reducible refine And.intro (by first | omega | assumption | rfl) ?_)))
  exact DFin.t (fin_pure hS (closed_encV x) (by (repeat' first | assumption | exact St.Sub.refl _ | exact RowOk.sub (by assumption) (by assumption) | refine St.Sub.trans ?_ (RowOk.sub (by assumption) (by assumption)) | refine St.Sub.add ?_ ?_ _ | refine St.Sub.set ?_ ?_ ?_ _ | refine St.Sub.keep ?_ ?_ | refine St.WF.leave ?_ _ | refine St.WF.add ?_ _ | refine St.WF.set ?_ ?_ _ | refine St.WF.grow ?_ _ _ _ | refine St.WF.keep ?_ ?_ | (first | omega | (simp only [RowOk.lo, add_next, set_next, grow_next, leave_next, drop_next]; first | done | omega)))))
set_option maxRecDepth 200000 in
set_option maxHeartbeats 8000000 in
theorem put_d (v x : DVal) (ps : List DStp) (own : Own) (hok : okV v) (hw : v.weight ≤ 1000000) (hl : ps.length ≤ 1000000) (hw2 : (chV (fun _ => x) ps v).weight ≤ 1000000) : DPure Try.prog 33 [encV v, encV x, .sl own (ps.map encP)] (.tup [encV (chV (fun _ => x) ps v), .v (.bool (getV ps v).isSome)]) := by
  refine dpure_of_dwp mixed Try.func33 rfl (fun _ _ => by kernel_rfl) (rs := [.cell 6 31, .tmp 7]) rfl (by kernel_rfl) (closed_res _ _) (fun S hS => ?_)
  (simp (disch := first | decide | omega | (simp only [add_next, set_next, grow_next, leave_next, drop_next, List.length_map]; first | done | omega)) only [go_sem, ↓reduceIte, Nat.reduceBEq, Nat.reduceAdd, Nat.reduceLeDiff, Nat.reduceEqDiff, Nat.reduceLT, Nat.reduceMul]; (repeat (with_reducible refine And.intro (by first | omega | assumption | rfl) ?_)))
  refine (change_d 71 [] [.loc (S.next + 1) 0] (fun _ => x) none ps own v _ hok hw hl ⟨fun j hj => (by cases hj), fun S' u hs hS' hu => ?_⟩).mono ?_
  · exact put1_d S' _ x u (hs.ob _ _ (by simp (disch := first | decide | omega | (simp only [add_next, set_next, grow_next, leave_next, drop_next, List.length_map]; first | done | omega)) only [go_sem, ↓reduceIte, Nat.reduceBEq, Nat.reduceAdd, Nat.reduceLeDiff, Nat.reduceEqDiff, Nat.reduceLT, Nat.reduceMul]))
  · rintro d T ⟨rfl, rfl⟩
    have hl0 : ∀ r, leftS (((S.add (.box 31 (encV v).cells)).add (.box 31 (encV x).cells)).add (.box 31 [.v (.int .i64 0), .v (.int .i64 0), .v (.string ⟨#[]⟩), .sl .full [], .sl .full [], .sl .full []])) none r = (((S.add (.box 31 (encV v).cells)).add (.box 31 (encV x).cells)).add (.box 31 [.v (.int .i64 0), .v (.int .i64 0), .v (.string ⟨#[]⟩), .sl .full [], .sl .full [], .sl .full []])) := fun r => by cases r <;> rfl
    rw [hl0]
    (simp (disch := first | decide | omega | (simp only [add_next, set_next, grow_next, leave_next, drop_next, List.length_map]; first | done | omega)) only [go_sem, ↓reduceIte, Nat.reduceBEq, Nat.reduceAdd, Nat.reduceLeDiff, Nat.reduceEqDiff, Nat.reduceLT, Nat.reduceMul]; (repeat (with_reducible refine And.intro (by first | omega | assumption | rfl) ?_)))
    refine DCalls.of_pure (copyV_d _ _ (Nat.le_refl _) hw2) ?_
    (simp (disch := first | decide | omega | (simp only [add_next, set_next, grow_next, leave_next, drop_next, List.length_map]; first | done | omega)) only [go_sem, ↓reduceIte, Nat.reduceBEq, Nat.reduceAdd, Nat.reduceLeDiff, Nat.reduceEqDiff, Nat.reduceLT, Nat.reduceMul]; (repeat (with_reducible refine And.intro (by first | omega | assumption | rfl) ?_)))
    refine ⟨?_, (by (repeat' first | assumption | exact St.Sub.refl _ | exact RowOk.sub (by assumption) (by assumption) | refine St.Sub.trans ?_ (RowOk.sub (by assumption) (by assumption)) | refine St.Sub.add ?_ ?_ _ | refine St.Sub.set ?_ ?_ ?_ _ | refine St.Sub.keep ?_ ?_ | refine St.WF.leave ?_ _ | refine St.WF.add ?_ _ | refine St.WF.set ?_ ?_ _ | refine St.WF.grow ?_ _ _ _ | refine St.WF.keep ?_ ?_ | (first | omega | (simp only [RowOk.lo, add_next, set_next, grow_next, leave_next, drop_next]; first | done | omega))))⟩
    simp only [D.frz, frzL, frz_encV]
end Go.Proofs.Ytpnjkebjdclkfaa

/- Paths, walked: all paths. Conditions: none. -/
namespace Go.Proofs.Ytpnjkebjdclkfaa
open Go.RowKit
set_option linter.unusedSimpArgs false
def stepV (v : DVal) (i : Nat) : DStp := if v.kind = 5 then (v.names.getD i [], 0) else ([], v.ids.getD i 0)
/-- All paths into a value: the document's. -/
def pathsV : Nat → DVal → List (List DStp)
  | 0, _ => [[]]
  | k + 1, v => [] :: (List.range v.parts.length).flatMap fun i => (pathsV k (v.parts.getD i default)).map (stepV v i :: ·)
def restV (k : Nat) (v : DVal) (i : Nat) : List (List DStp) := (List.range i).flatMap fun i => (pathsV k (v.parts.getD i default)).map (stepV v i :: ·)
theorem pathsV_succ (k : Nat) (v : DVal) : pathsV (k + 1) v = [] :: restV k v v.parts.length := rfl
theorem restV_succ (k : Nat) (v : DVal) (i : Nat) : restV k v (i + 1) = restV k v i ++ (pathsV k (v.parts.getD i default)).map (stepV v i :: ·) := by
  simp only [restV, List.range_succ, List.flatMap_append, List.flatMap_cons, List.flatMap_nil, List.append_nil]
theorem weights_take (l : List DVal) : ∀ i, i < l.length → DVal.weights (l.take (i + 1)) = DVal.weights (l.take i) + (l.getD i default).weight := by
  induction l with
  | nil => intro i h; simp at h
  | cons p l ih =>
    intro i h
    cases i with
    | zero => simp [DVal.weights]
    | succ i =>
      simp only [List.take_succ_cons, DVal.weights, List.getD_cons_succ]
      rw [ih i (by simpa using h)]; omega
theorem weights_take_le (l : List DVal) : ∀ i, DVal.weights (l.take i) ≤ DVal.weights l := by
  induction l with
  | nil => intro i; simp [DVal.weights]
  | cons p l ih =>
    intro i
    cases i with
    | zero => simp [DVal.weights]
    | succ i => simp only [List.take_succ_cons, DVal.weights]; have := ih i; omega
theorem pathsV_len (k : Nat) : ∀ v : DVal, v.depth ≤ k → (pathsV k v).length ≤ v.weight ∧ ∀ i, i ≤ v.parts.length → k = k → (restV (k - 1) v i).length ≤ DVal.weights (v.parts.take i) := by
  induction k with
  | zero => intro v h; have := v.depth_pos; omega
  | succ k ih =>
    intro v hk
    have key : ∀ i, i ≤ v.parts.length → (restV k v i).length ≤ DVal.weights (v.parts.take i) := fun i => by
      induction i with
      | zero => intro _; simp [restV]
      | succ i ihi =>
        intro hi
        rw [restV_succ, List.length_append, List.length_map, weights_take _ _ (by omega)]
        have h1 := ihi (by omega)
        have hm : v.parts.getD i default ∈ v.parts := by rw [getD_at (by omega)]; exact List.getElem_mem _
        have h2 := (ih (v.parts.getD i default) (by have := DVal.depth_part hm; omega)).1
        omega
    refine ⟨?_, fun i hi _ => key i hi⟩
    rw [pathsV_succ, List.length_cons]
    have h1 := key v.parts.length (Nat.le_refl _)
    have h2 := v.weight_eq
    have h3 := weights_take_le v.parts v.parts.length
    omega
theorem restV_len {k : Nat} {v : DVal} (h : v.depth ≤ k + 1) {i : Nat} (hi : i ≤ v.parts.length) : (restV k v i).length ≤ v.weight := by
  have h1 := (pathsV_len (k + 1) v h).2 i hi rfl
  have h2 := weights_take_le v.parts i
  have h3 := v.weight_eq
  simp only [Nat.add_sub_cancel] at h1
  omega
def encPss (l : List (List DStp)) : D := .sl .no (l.map encPs)
theorem closed_encPs (l : List DStp) : (encPs l).closed := closed_steps .no trivial l
theorem closed_encPss (l : List (List DStp)) : (encPss l).closed := by
  simp only [encPss, D.closed, D.all, Own.all, true_and]
  refine allL_iff.2 fun d hd => ?_
  obtain ⟨p, _, rfl⟩ := List.mem_map.1 hd
  exact closed_encPs p
theorem frz_encP (p : DStp) : (encP p).frz = encP p := rfl
theorem frz_mapP (l : List DStp) : frzL (l.map encP) = l.map encP := by simp [frzL_map, frz_encP, Function.comp_def]
theorem frz_encPs (l : List DStp) : (encPs l).frz = encPs l := by simp only [encPs, D.frz, frz_mapP]
theorem frz_mapPs (l : List (List DStp)) : frzL (l.map encPs) = l.map encPs := by simp [frzL_map, frz_encPs, Function.comp_def]
theorem width_encPs (l : List DStp) : (encPs l).cells.length = 1 := rfl
/-- What a sound value has of names and numbers. -/
theorem RV.steps {v : DVal} (h : RV v) {i : Nat} (hi : i < v.parts.length) : (v.kind = 5 → i < v.names.length) ∧ (v.kind ≠ 5 → i < v.ids.length) := by
  obtain ⟨h1, h2, h3⟩ := h.here
  refine ⟨fun h5 => ?_, fun h5 => ?_⟩
  · have := h2 (by omega); omega
  · have := h1 h5; omega
set_option maxRecDepth 200000 in
set_option maxHeartbeats 8000000 in
theorem all_d (k : Nat) : ∀ (v : DVal) (a : List DStp) (ownA : Own), ownA.all (fun _ => False) → v.depth ≤ k → okV v → RV v → v.weight ≤ 1000000 → a.length + k ≤ 1000000 →
    DPure Try.prog 65 [encV v, .sl ownA (a.map encP)] (encPss ((pathsV k v).map (a ++ ·))) := by
  induction k with
  | zero => intro v a oA _ h; have := v.depth_pos; omega
  | succ k ih =>
    intro v a ownA hoA hk hok hrv hw ha
    have hwe := v.weight_eq
    have hpl := partsLen v
    obtain ⟨o1, o2, o3, o4, o5, o6, o7, o8, o9⟩ := (okV_eq v).1 hok
    refine dpure_of_dwp mixed Try.func65 rfl (fun _ _ => by kernel_rfl) (rs := [.tmp 4]) rfl (by kernel_rfl) (closed_encPss _) (fun S hS => ?_)
    (simp (disch := first | decide | omega | (simp only [add_next, set_next, grow_next, leave_next, drop_next, List.length_map]; first | done | omega)) only [go_sem, ↓reduceIte, Nat.reduceBEq, Nat.reduceAdd, Nat.reduceLeDiff, Nat.reduceEqDiff, Nat.reduceLT, Nat.reduceMul, encV_eq v]; (repeat (with_reducible refine And.intro (by first | omega | assumption | rfl) ?_)))
    (refine dloop_row (fun t => List.contains [5, 6, 7, 8, 14, 15, 16, 17, 18, 19, 20, 21, 22, 23, 24, 25, 26, 27, 28, 29, 30, 31, 32, 33, 34, 35, 36, 37, 38, 39, 40, 41, 42, 43, 44] t) (by kernel_rfl) ?_ (v.parts.length) (42) (fun i own m f => i ≤ v.parts.length ∧ f 5 = .sl own (D.sl ownA (a.map encP) :: ((restV k v i).map (a ++ ·)).map encPs) ∧ f 14 = .v (.int .i64 (i : Nat)) ∧ (own = .full ∨ m = (restV k v i).length + 1)) ?_ ?_; (exact (by (repeat' first | assumption | refine St.WF.leave ?_ _ | refine St.WF.add ?_ _ | refine St.WF.set ?_ ?_ _ | refine St.WF.grow ?_ _ _ _ | refine St.WF.keep ?_ ?_ | (first | omega | (simp only [RowOk.lo, add_next, set_next, grow_next, leave_next, drop_next]; first | done | omega))))); (exact ⟨(by omega), (by (first | (simp (disch := first | decide | omega | (simp only [add_next, set_next, grow_next, leave_next, drop_next, List.length_map]; first | done | omega)) only [go_sem, ↓reduceIte, Nat.reduceBEq, Nat.reduceAdd, Nat.reduceLeDiff, Nat.reduceEqDiff, Nat.reduceLT, Nat.reduceMul]; first | done | rfl) | rfl)), (by (first | (simp (disch := first | decide | omega | (simp only [add_next, set_next, grow_next, leave_next, drop_next, List.length_map]; first | done | omega)) only [go_sem, ↓reduceIte, Nat.reduceBEq, Nat.reduceAdd, Nat.reduceLeDiff, Nat.reduceEqDiff, Nat.reduceLT, Nat.reduceMul]; first | done | rfl) | rfl)), (.inl rfl)⟩); intro i g tn own m hn hr hT hg hI; obtain ⟨le, q5, q14, hm⟩ := hI; have q1 := hg 1 rfl; have q2 := hg 2 rfl; have q4 := hg 4 rfl; have q12 := hg 12 rfl; have q13 := hg 13 rfl; simp (disch := first | decide | omega | (simp only [add_next, set_next, grow_next, leave_next, drop_next, List.length_map]; first | done | omega)) only [go_sem, ↓reduceIte, Nat.reduceBEq, Nat.reduceAdd, Nat.reduceLeDiff, Nat.reduceEqDiff, Nat.reduceLT, Nat.reduceMul] at q1 q2 q4 q12 q13; clear hg; have hn' := hn; try simp only [add_next, set_next, grow_next, leave_next, drop_next] at hn')
    by_cases hlt : i < v.parts.length
    · have b1 : decide ((i : Int) < (v.parts.length : Int)) = true := by simp; omega
      have w1 : IntKind.i64.wrap ((i : Int) + 1) = ((i + 1 : Nat) : Int) := IntWalk.i64_in _ ⟨by omega, by omega⟩
      have hd := DVal.depth_part (List.getElem_mem hlt)
      have hww := DVal.weight_part (List.getElem_mem hlt)
      have hst := hrv.steps hlt
      have hro := fun {e m k} => rowOf_lt hr (e := e) (m := m) (k := k)
      have hwP : ∀ d ∈ List.map encP a, d.cells.length = 2 := fun d hd => by obtain ⟨q, _, rfl⟩ := List.mem_map.1 hd; rfl
      have hwE : ∀ d ∈ D.sl ownA (List.map encP a) :: List.map encPs (List.map (fun x => a ++ x) (restV k v i)), d.cells.length = 1 := fun d hd => by
        rcases List.mem_cons.1 hd with rfl | hd
        · rfl
        · obtain ⟨q, _, rfl⟩ := List.mem_map.1 hd; rfl
      have hwF : ∀ d ∈ List.map encPs ((pathsV k v.parts[i]).map ((a ++ [stepV v i]) ++ ·)), d.cells.length = 1 := fun d hd => by
        obtain ⟨q, _, rfl⟩ := List.mem_map.1 hd; rfl
      have hmE : own = .full ∨ m = (D.sl ownA (List.map encP a) :: List.map encPs (List.map (fun x => a ++ x) (restV k v i))).length := by simpa using hm
      have hlA := restV_len hk le
      have hlB := (pathsV_len k v.parts[i] (by omega)).1
      by_cases h5 : v.kind = 5
      · have b5 : (v.kind == 5) = true := by simp [h5]
        have hnm := hst.1 h5
        (simp (disch := first | decide | omega | (simp only [add_next, set_next, grow_next, leave_next, drop_next, List.length_map]; first | done | omega)) only [go_sem, ↓reduceIte, Nat.reduceBEq, Nat.reduceAdd, Nat.reduceLeDiff, Nat.reduceEqDiff, Nat.reduceLT, Nat.reduceMul, q12, q13, q14, q5, q2, q1, b1, b5, hro]; (repeat (with_reducible refine And.intro (by first | omega | assumption | rfl) ?_)))
        refine ddraw_mk 8 (by kernel_rfl) ?_
        (simp (disch := first | decide | omega | (simp only [add_next, set_next, grow_next, leave_next, drop_next, List.length_map]; first | done | omega)) only [go_sem, ↓reduceIte, Nat.reduceBEq, Nat.reduceAdd, Nat.reduceLeDiff, Nat.reduceEqDiff, Nat.reduceLT, Nat.reduceMul, q12, q13, q14, q5, q2, q1, b1, b5, hro]; (repeat (with_reducible refine And.intro (by first | omega | assumption | rfl) ?_)))
        refine dqgo_mk (clip_d ownA a (by omega)) ?_
        (simp (disch := first | decide | omega | (simp only [add_next, set_next, grow_next, leave_next, drop_next, List.length_map]; first | done | omega)) only [go_sem, ↓reduceIte, Nat.reduceBEq, Nat.reduceAdd, Nat.reduceLeDiff, Nat.reduceEqDiff, Nat.reduceLT, Nat.reduceMul, q12, q13, q14, q5, q2, q1, b1, b5, hro]; (repeat (with_reducible refine And.intro (by first | omega | assumption | rfl) ?_)))
        refine dqgo_mk (d := encPss ((pathsV k v.parts[i]).map ((a ++ [stepV v i]) ++ ·))) ?_ ?_
        · have := ih v.parts[i] (a ++ [stepV v i]) .no trivial (by omega) (o9 _ (List.getElem_mem hlt)) (hrv.part (List.getElem_mem hlt)) (by omega) (by rw [List.length_append]; simp; omega)
          rw [List.map_append] at this
          simpa [stepV, h5, encP, strD, u64D, hnm, strB, sv] using this
        (simp (disch := first | decide | omega | (simp only [add_next, set_next, grow_next, leave_next, drop_next, List.length_map]; first | done | omega)) only [go_sem, ↓reduceIte, Nat.reduceBEq, Nat.reduceAdd, Nat.reduceLeDiff, Nat.reduceEqDiff, Nat.reduceLT, Nat.reduceMul, q12, q13, q14, q5, q2, q1, b1, b5, hro, encPss]; (repeat (with_reducible refine And.intro (by first | omega | assumption | rfl) ?_)))
        (refine dapp_grow (by (first | (simp (disch := first | decide | omega | (simp only [add_next, set_next, grow_next, leave_next, drop_next, List.length_map]; first | done | omega)) only [go_sem, ↓reduceIte, Nat.reduceBEq, Nat.reduceAdd, Nat.reduceLeDiff, Nat.reduceEqDiff, Nat.reduceLT, Nat.reduceMul]; first | done | rfl) | rfl)) (by (first | (simp (disch := first | decide | omega | (simp only [add_next, set_next, grow_next, leave_next, drop_next, List.length_map]; first | done | omega)) only [go_sem, ↓reduceIte, Nat.reduceBEq, Nat.reduceAdd, Nat.reduceLeDiff, Nat.reduceEqDiff, Nat.reduceLT, Nat.reduceMul]; first | done | rfl) | rfl)) (by (first | (simp (disch := first | decide | omega | (simp only [add_next, set_next, grow_next, leave_next, drop_next, List.length_map]; first | done | omega)) only [go_sem, ↓reduceIte, Nat.reduceBEq, Nat.reduceAdd, Nat.reduceLeDiff, Nat.reduceEqDiff, Nat.reduceLT, Nat.reduceMul]; first | done | rfl) | rfl)) (fun d hd => ?_) (fun d hd => ?_) hr (by (repeat' first | assumption | exact St.Sub.refl _ | exact RowOk.sub (by assumption) (by assumption) | refine St.Sub.trans ?_ (RowOk.sub (by assumption) (by assumption)) | refine St.Sub.add ?_ ?_ _ | refine St.Sub.set ?_ ?_ ?_ _ | refine St.Sub.keep ?_ ?_ | refine St.WF.leave ?_ _ | refine St.WF.add ?_ _ | refine St.WF.set ?_ ?_ _ | refine St.WF.grow ?_ _ _ _ | refine St.WF.keep ?_ ?_ | (first | omega | (simp only [RowOk.lo, add_next, set_next, grow_next, leave_next, drop_next]; first | done | omega)))) ?_ ?_ ?_ ?_; (exact (by first | (simp (disch := first | decide | omega | (simp only [add_next, set_next, grow_next, leave_next, drop_next, List.length_map]; first | done | omega)) only [go_sem, ↓reduceIte, Nat.reduceBEq, Nat.reduceAdd, Nat.reduceLeDiff, Nat.reduceEqDiff, Nat.reduceLT, Nat.reduceMul]; done) | (simp (disch := first | decide | omega | (simp only [add_next, set_next, grow_next, leave_next, drop_next, List.length_map]; first | done | omega)) only [go_sem, ↓reduceIte, Nat.reduceBEq, Nat.reduceAdd, Nat.reduceLeDiff, Nat.reduceEqDiff, Nat.reduceLT, Nat.reduceMul]; exact (hwE d hd)))); (exact (by first | (simp (disch := first | decide | omega | (simp only [add_next, set_next, grow_next, leave_next, drop_next, List.length_map]; first | done | omega)) only [go_sem, ↓reduceIte, Nat.reduceBEq, Nat.reduceAdd, Nat.reduceLeDiff, Nat.reduceEqDiff, Nat.reduceLT, Nat.reduceMul]; done) | (simp (disch := first | decide | omega | (simp only [add_next, set_next, grow_next, leave_next, drop_next, List.length_map]; first | done | omega)) only [go_sem, ↓reduceIte, Nat.reduceBEq, Nat.reduceAdd, Nat.reduceLeDiff, Nat.reduceEqDiff, Nat.reduceLT, Nat.reduceMul]; exact (hwF d hd)))); (exact (hmE)))
        · simp only [List.length_cons, List.length_map]; omega
        · simp (disch := first | decide | omega | (simp only [add_next, set_next, grow_next, leave_next, drop_next, List.length_map]; first | done | omega)) only [go_sem, ↓reduceIte, Nat.reduceBEq, Nat.reduceAdd, Nat.reduceLeDiff, Nat.reduceEqDiff, Nat.reduceLT, Nat.reduceMul]; omega
        (simp (disch := first | decide | omega | (simp only [add_next, set_next, grow_next, leave_next, drop_next, List.length_map]; first | done | omega)) only [go_sem, ↓reduceIte, Nat.reduceBEq, Nat.reduceAdd, Nat.reduceLeDiff, Nat.reduceEqDiff, Nat.reduceLT, Nat.reduceMul, q12, q13, q14, q5, w1]; (repeat (with_reducible refine And.intro (by first | omega | assumption | rfl) ?_)))
        (refine ⟨by omega, _, _, RowNext.grow (m := m) ?_ ?_ hr hn ?_ (St.Sub.refl _), ?_⟩; (exact (by (repeat' first | assumption | refine St.WF.leave ?_ _ | refine St.WF.add ?_ _ | refine St.WF.set ?_ ?_ _ | refine St.WF.grow ?_ _ _ _ | refine St.WF.keep ?_ ?_ | (first | omega | (simp only [RowOk.lo, add_next, set_next, grow_next, leave_next, drop_next]; first | done | omega))))); (exact (by (first | omega | (simp only [RowOk.lo, add_next, set_next, grow_next, leave_next, drop_next]; first | done | omega)))); (exact (by (repeat' first | assumption | exact St.Sub.refl _ | exact RowOk.sub (by assumption) (by assumption) | refine St.Sub.trans ?_ (RowOk.sub (by assumption) (by assumption)) | refine St.Sub.add ?_ ?_ _ | refine St.Sub.set ?_ ?_ ?_ _ | refine St.Sub.keep ?_ ?_ | refine St.WF.leave ?_ _ | refine St.WF.add ?_ _ | refine St.WF.set ?_ ?_ _ | refine St.WF.grow ?_ _ _ _ | refine St.WF.keep ?_ ?_ | (first | omega | (simp only [RowOk.lo, add_next, set_next, grow_next, leave_next, drop_next]; first | done | omega))))); refine ⟨by omega, ?_, ?_, ?_⟩; all_goals (try (first | (simp (disch := first | decide | omega | (simp only [add_next, set_next, grow_next, leave_next, drop_next, List.length_map]; first | done | omega)) only [go_sem, ↓reduceIte, Nat.reduceBEq, Nat.reduceAdd, Nat.reduceLeDiff, Nat.reduceEqDiff, Nat.reduceLT, Nat.reduceMul, w1]; first | done | rfl) | rfl)))
        · simp (disch := first | decide | omega | (simp only [add_next, set_next, grow_next, leave_next, drop_next, List.length_map]; first | done | omega)) only [go_sem, ↓reduceIte, Nat.reduceBEq, Nat.reduceAdd, Nat.reduceLeDiff, Nat.reduceEqDiff, Nat.reduceLT, Nat.reduceMul]
          rw [restV_succ, getD_at hlt]
          simp [List.map_append, List.map_map, Function.comp_def, List.append_assoc]
        · refine .inr ?_
          rw [restV_succ, getD_at hlt]
          simp only [List.length_append, List.length_map]
          omega
      · have b5 : (v.kind == 5) = false := by simp [h5]
        have hnm := hst.2 h5
        (simp (disch := first | decide | omega | (simp only [add_next, set_next, grow_next, leave_next, drop_next, List.length_map]; first | done | omega)) only [go_sem, ↓reduceIte, Nat.reduceBEq, Nat.reduceAdd, Nat.reduceLeDiff, Nat.reduceEqDiff, Nat.reduceLT, Nat.reduceMul, q12, q13, q14, q5, q2, q1, b1, b5, hro]; (repeat (with_reducible refine And.intro (by first | omega | assumption | rfl) ?_)))
        refine ddraw_mk 8 (by kernel_rfl) ?_
        (simp (disch := first | decide | omega | (simp only [add_next, set_next, grow_next, leave_next, drop_next, List.length_map]; first | done | omega)) only [go_sem, ↓reduceIte, Nat.reduceBEq, Nat.reduceAdd, Nat.reduceLeDiff, Nat.reduceEqDiff, Nat.reduceLT, Nat.reduceMul, q12, q13, q14, q5, q2, q1, b1, b5, hro]; (repeat (with_reducible refine And.intro (by first | omega | assumption | rfl) ?_)))
        refine dqgo_mk (clip_d ownA a (by omega)) ?_
        (simp (disch := first | decide | omega | (simp only [add_next, set_next, grow_next, leave_next, drop_next, List.length_map]; first | done | omega)) only [go_sem, ↓reduceIte, Nat.reduceBEq, Nat.reduceAdd, Nat.reduceLeDiff, Nat.reduceEqDiff, Nat.reduceLT, Nat.reduceMul, q12, q13, q14, q5, q2, q1, b1, b5, hro]; (repeat (with_reducible refine And.intro (by first | omega | assumption | rfl) ?_)))
        refine dqgo_mk (d := encPss ((pathsV k v.parts[i]).map ((a ++ [stepV v i]) ++ ·))) ?_ ?_
        · have := ih v.parts[i] (a ++ [stepV v i]) .no trivial (by omega) (o9 _ (List.getElem_mem hlt)) (hrv.part (List.getElem_mem hlt)) (by omega) (by rw [List.length_append]; simp; omega)
          rw [List.map_append] at this
          simpa [stepV, h5, encP, strD, u64D, hnm, strB, sv] using this
        (simp (disch := first | decide | omega | (simp only [add_next, set_next, grow_next, leave_next, drop_next, List.length_map]; first | done | omega)) only [go_sem, ↓reduceIte, Nat.reduceBEq, Nat.reduceAdd, Nat.reduceLeDiff, Nat.reduceEqDiff, Nat.reduceLT, Nat.reduceMul, q12, q13, q14, q5, q2, q1, b1, b5, hro, encPss]; (repeat (with_reducible refine And.intro (by first | omega | assumption | rfl) ?_)))
        (refine dapp_grow (by (first | (simp (disch := first | decide | omega | (simp only [add_next, set_next, grow_next, leave_next, drop_next, List.length_map]; first | done | omega)) only [go_sem, ↓reduceIte, Nat.reduceBEq, Nat.reduceAdd, Nat.reduceLeDiff, Nat.reduceEqDiff, Nat.reduceLT, Nat.reduceMul]; first | done | rfl) | rfl)) (by (first | (simp (disch := first | decide | omega | (simp only [add_next, set_next, grow_next, leave_next, drop_next, List.length_map]; first | done | omega)) only [go_sem, ↓reduceIte, Nat.reduceBEq, Nat.reduceAdd, Nat.reduceLeDiff, Nat.reduceEqDiff, Nat.reduceLT, Nat.reduceMul]; first | done | rfl) | rfl)) (by (first | (simp (disch := first | decide | omega | (simp only [add_next, set_next, grow_next, leave_next, drop_next, List.length_map]; first | done | omega)) only [go_sem, ↓reduceIte, Nat.reduceBEq, Nat.reduceAdd, Nat.reduceLeDiff, Nat.reduceEqDiff, Nat.reduceLT, Nat.reduceMul]; first | done | rfl) | rfl)) (fun d hd => ?_) (fun d hd => ?_) hr (by (repeat' first | assumption | exact St.Sub.refl _ | exact RowOk.sub (by assumption) (by assumption) | refine St.Sub.trans ?_ (RowOk.sub (by assumption) (by assumption)) | refine St.Sub.add ?_ ?_ _ | refine St.Sub.set ?_ ?_ ?_ _ | refine St.Sub.keep ?_ ?_ | refine St.WF.leave ?_ _ | refine St.WF.add ?_ _ | refine St.WF.set ?_ ?_ _ | refine St.WF.grow ?_ _ _ _ | refine St.WF.keep ?_ ?_ | (first | omega | (simp only [RowOk.lo, add_next, set_next, grow_next, leave_next, drop_next]; first | done | omega)))) ?_ ?_ ?_ ?_; (exact (by first | (simp (disch := first | decide | omega | (simp only [add_next, set_next, grow_next, leave_next, drop_next, List.length_map]; first | done | omega)) only [go_sem, ↓reduceIte, Nat.reduceBEq, Nat.reduceAdd, Nat.reduceLeDiff, Nat.reduceEqDiff, Nat.reduceLT, Nat.reduceMul]; done) | (simp (disch := first | decide | omega | (simp only [add_next, set_next, grow_next, leave_next, drop_next, List.length_map]; first | done | omega)) only [go_sem, ↓reduceIte, Nat.reduceBEq, Nat.reduceAdd, Nat.reduceLeDiff, Nat.reduceEqDiff, Nat.reduceLT, Nat.reduceMul]; exact (hwE d hd)))); (exact (by first | (simp (disch := first | decide | omega | (simp only [add_next, set_next, grow_next, leave_next, drop_next, List.length_map]; first | done | omega)) only [go_sem, ↓reduceIte, Nat.reduceBEq, Nat.reduceAdd, Nat.reduceLeDiff, Nat.reduceEqDiff, Nat.reduceLT, Nat.reduceMul]; done) | (simp (disch := first | decide | omega | (simp only [add_next, set_next, grow_next, leave_next, drop_next, List.length_map]; first | done | omega)) only [go_sem, ↓reduceIte, Nat.reduceBEq, Nat.reduceAdd, Nat.reduceLeDiff, Nat.reduceEqDiff, Nat.reduceLT, Nat.reduceMul]; exact (hwF d hd)))); (exact (hmE)))
        · simp only [List.length_cons, List.length_map]; omega
        · simp (disch := first | decide | omega | (simp only [add_next, set_next, grow_next, leave_next, drop_next, List.length_map]; first | done | omega)) only [go_sem, ↓reduceIte, Nat.reduceBEq, Nat.reduceAdd, Nat.reduceLeDiff, Nat.reduceEqDiff, Nat.reduceLT, Nat.reduceMul]; omega
        (simp (disch := first | decide | omega | (simp only [add_next, set_next, grow_next, leave_next, drop_next, List.length_map]; first | done | omega)) only [go_sem, ↓reduceIte, Nat.reduceBEq, Nat.reduceAdd, Nat.reduceLeDiff, Nat.reduceEqDiff, Nat.reduceLT, Nat.reduceMul, q12, q13, q14, q5, w1]; (repeat (with_reducible refine And.intro (by first | omega | assumption | rfl) ?_)))
        (refine ⟨by omega, _, _, RowNext.grow (m := m) ?_ ?_ hr hn ?_ (St.Sub.refl _), ?_⟩; (exact (by (repeat' first | assumption | refine St.WF.leave ?_ _ | refine St.WF.add ?_ _ | refine St.WF.set ?_ ?_ _ | refine St.WF.grow ?_ _ _ _ | refine St.WF.keep ?_ ?_ | (first | omega | (simp only [RowOk.lo, add_next, set_next, grow_next, leave_next, drop_next]; first | done | omega))))); (exact (by (first | omega | (simp only [RowOk.lo, add_next, set_next, grow_next, leave_next, drop_next]; first | done | omega)))); (exact (by (repeat' first | assumption | exact St.Sub.refl _ | exact RowOk.sub (by assumption) (by assumption) | refine St.Sub.trans ?_ (RowOk.sub (by assumption) (by assumption)) | refine St.Sub.add ?_ ?_ _ | refine St.Sub.set ?_ ?_ ?_ _ | refine St.Sub.keep ?_ ?_ | refine St.WF.leave ?_ _ | refine St.WF.add ?_ _ | refine St.WF.set ?_ ?_ _ | refine St.WF.grow ?_ _ _ _ | refine St.WF.keep ?_ ?_ | (first | omega | (simp only [RowOk.lo, add_next, set_next, grow_next, leave_next, drop_next]; first | done | omega))))); refine ⟨by omega, ?_, ?_, ?_⟩; all_goals (try (first | (simp (disch := first | decide | omega | (simp only [add_next, set_next, grow_next, leave_next, drop_next, List.length_map]; first | done | omega)) only [go_sem, ↓reduceIte, Nat.reduceBEq, Nat.reduceAdd, Nat.reduceLeDiff, Nat.reduceEqDiff, Nat.reduceLT, Nat.reduceMul, w1]; first | done | rfl) | rfl)))
        · simp (disch := first | decide | omega | (simp only [add_next, set_next, grow_next, leave_next, drop_next, List.length_map]; first | done | omega)) only [go_sem, ↓reduceIte, Nat.reduceBEq, Nat.reduceAdd, Nat.reduceLeDiff, Nat.reduceEqDiff, Nat.reduceLT, Nat.reduceMul]
          rw [restV_succ, getD_at hlt]
          simp [List.map_append, List.map_map, Function.comp_def, List.append_assoc]
        · refine .inr ?_
          rw [restV_succ, getD_at hlt]
          simp only [List.length_append, List.length_map]
          omega
    · have b1 : decide ((i : Int) < (v.parts.length : Int)) = false := by simp; omega
      (simp (disch := first | decide | omega | (simp only [add_next, set_next, grow_next, leave_next, drop_next, List.length_map]; first | done | omega)) only [go_sem, ↓reduceIte, Nat.reduceBEq, Nat.reduceAdd, Nat.reduceLeDiff, Nat.reduceEqDiff, Nat.reduceLT, Nat.reduceMul, q12, q13, q14, q5, b1]; (repeat (with_reducible refine And.intro (by first | omega | assumption | rfl) ?_)))
      refine ⟨?_, (by (repeat' first | assumption | exact St.Sub.refl _ | exact RowOk.sub (by assumption) (by assumption) | refine St.Sub.trans ?_ (RowOk.sub (by assumption) (by assumption)) | refine St.Sub.add ?_ ?_ _ | refine St.Sub.set ?_ ?_ ?_ _ | refine St.Sub.keep ?_ ?_ | refine St.WF.leave ?_ _ | refine St.WF.add ?_ _ | refine St.WF.set ?_ ?_ _ | refine St.WF.grow ?_ _ _ _ | refine St.WF.keep ?_ ?_ | (first | omega | (simp only [RowOk.lo, add_next, set_next, grow_next, leave_next, drop_next]; first | done | omega))))⟩
      have hi : i = v.parts.length := by omega
      subst hi
      simp only [D.frz, frzL, frz_mapP, frz_mapPs]
      rw [pathsV_succ, List.map_cons, List.append_nil, encPss, List.map_cons]
      rfl
end Go.Proofs.Ytpnjkebjdclkfaa
