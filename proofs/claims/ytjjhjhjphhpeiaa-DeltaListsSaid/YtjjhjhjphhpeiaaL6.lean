/- Texts of a proof, part 6. Conditions: none. -/
import Derived.Test.YtjjhjhjphhpeiaaL5
import Derived.Laws.CopyRow
import Derived.Laws.Externs
set_option linter.unusedVariables false
set_option linter.unusedSimpArgs false
namespace Go.Proofs.Ytjjhjhjphhpeiaa
open Go.RowKit
set_option linter.unusedSimpArgs false
theorem gdS0 (s : DSch) : (encS s).cells.getD 0 undefD = .v (.int .i64 s.kind) := by rw [encS_eq]; exact Eq.trans (Eq.refl _) (Eq.refl _)
theorem gdS1 (s : DSch) : (encS s).cells.getD 1 undefD = .sl .no (s.words.map strD) := by rw [encS_eq]; exact Eq.trans (Eq.refl _) (Eq.refl _)
theorem gdS2 (s : DSch) : (encS s).cells.getD 2 undefD = .sl .no (s.parts.map encS) := by rw [encS_eq]; exact Eq.trans (Eq.refl _) (Eq.refl _)
theorem gdV0 (s : DVal) : (encV s).cells.getD 0 undefD = .v (.int .i64 s.kind) := by rw [encV_eq]; exact Eq.trans (Eq.refl _) (Eq.refl _)
theorem gdV1 (s : DVal) : (encV s).cells.getD 1 undefD = .v (.int .i64 s.n) := by rw [encV_eq]; exact Eq.trans (Eq.refl _) (Eq.refl _)
theorem gdV2 (s : DVal) : (encV s).cells.getD 2 undefD = .v (sv s.s) := by rw [encV_eq]; exact Eq.trans (Eq.refl _) (Eq.refl _)
theorem gdV3 (s : DVal) : (encV s).cells.getD 3 undefD = .sl .no (s.names.map strD) := by rw [encV_eq]; exact Eq.trans (Eq.refl _) (Eq.refl _)
theorem gdV4 (s : DVal) : (encV s).cells.getD 4 undefD = .sl .no (s.ids.map u64D) := by rw [encV_eq]; exact Eq.trans (Eq.refl _) (Eq.refl _)
theorem gdV5 (s : DVal) : (encV s).cells.getD 5 undefD = .sl .no (s.parts.map encV) := by rw [encV_eq]; exact Eq.trans (Eq.refl _) (Eq.refl _)
theorem gdP0 (p : DStp) : (encP p).cells.getD 0 undefD = .v (sv p.1) := Eq.trans (Eq.refl _) (Eq.refl _)
theorem gdP1 (p : DStp) : (encP p).cells.getD 1 undefD = .v (.int .u64 (p.2 : Int)) := Eq.trans (Eq.refl _) (Eq.refl _)
attribute [go_sem] gdS0 gdS1 gdS2 gdV0 gdV1 gdV2 gdV3 gdV4 gdV5 gdP0 gdP1
theorem drop_encS (s : DSch) : (encS s).cells.drop 3 = [] := List.drop_of_length_le (by rw [cells_encS]; omega)
theorem drop_encV (s : DVal) : (encV s).cells.drop 6 = [] := List.drop_of_length_le (by rw [cells_encV]; omega)
theorem take_map_len {α β : Type} (f : α → β) (l : List α) : (l.map f).take l.length = l.map f := List.take_of_length_le (by simp)
theorem allP_eq (l : List DStp) : (∀ d, d ∈ l.map encP → d.cells.length = 2) = True := eq_true fun d hd => by obtain ⟨q, _, rfl⟩ := List.mem_map.1 hd; rfl
attribute [go_sem] drop_encS drop_encV take_map_len allP_eq
def DVal.withParts (v : DVal) (ps : List DVal) : DVal := .mk v.kind v.n v.s v.names v.ids ps
def inP (v : DVal) (p : DStp) : Prop := 0 ≤ placeOf v p ∧ placeOf v p < (v.parts.length : Int)
instance (v : DVal) (p : DStp) : Decidable (inP v p) := inferInstanceAs (Decidable (_ ∧ _))
def plN (v : DVal) (p : DStp) : Nat := (placeOf v p).toNat
/-- What a function makes of what stands at a path's end, in its place. -/
def chV (f : DVal → DVal) : List DStp → DVal → DVal
  | [], v => f v
  | p :: ps, v => if inP v p then v.withParts (v.parts.set (plN v p) (chV f ps (v.parts.getD (plN v p) default))) else v
theorem getV_cons (p : DStp) (ps : List DStp) (v : DVal) : getV (p :: ps) v = if inP v p then getV ps (v.parts.getD (plN v p) default) else none := rfl
/-- What the visitor leaves. -/
def leftS (S : St) : Option Nat → Option DVal → St
  | some c, some u => S.set c (.box 28 (encV u).cells)
  | _, _ => S
theorem leftS_next (S : St) (c : Option Nat) (r : Option DVal) : (leftS S c r).next = S.next := by
  cases c <;> cases r <;> rfl
theorem leftS_ob {S : St} {c : Option Nat} {r : Option DVal} {k : Nat} (h : ∀ j, c = some j → k ≠ j) : (leftS S c r).ob k = S.ob k := by
  cases c with
  | none => cases r <;> rfl
  | some j => cases r with
    | none => rfl
    | some u => exact ob_old (h j rfl)
/-- What the visitor is asked for. -/
def VisOk (g : FuncId) (fs cs : List D) (fV : DVal → DVal) (c : Option Nat) (S : St) : Prop := (∀ j, c = some j → j < S.next) ∧ ∀ S' u, S.Sub S' → S'.WF → u.weight ≤ 1000000 → DCalls Try.prog g (fs ++ [encV u] ++ cs) S' (fun d S'' => d = encV (fV u) ∧ S'' = leftS S' c (some u))
theorem VisOk.sub {g : FuncId} {fs cs : List D} {fV : DVal → DVal} {c : Option Nat} {S T : St} (h : VisOk g fs cs fV c S) (hs : S.Sub T) : VisOk g fs cs fV c T :=
  ⟨fun j hj => Nat.lt_of_lt_of_le (h.1 j hj) hs.next, fun S' u h1 h2 h3 => h.2 S' u (hs.trans h1) h2 h3⟩
theorem leftS_sub {S T : St} (hS : S.WF) (h : S.Sub T) {c : Option Nat} {r : Option DVal} : (leftS S c r).Sub (leftS T c r) := by
  cases c with
  | none => cases r <;> exact h
  | some j => cases r with
    | none => exact h
    | some u =>
      refine ⟨h.next, fun k o hk => ?_⟩
      simp only [leftS, set_ob] at *
      split
      · rename_i e; rw [if_pos e] at hk; exact hk
      · rename_i e; rw [if_neg e] at hk; exact h.ob k o hk
theorem leftS_wf {S : St} (hS : S.WF) {c : Option Nat} (hc : ∀ j, c = some j → j < S.next) (r : Option DVal) : (leftS S c r).WF := by
  cases c with
  | none => cases r <;> exact hS
  | some j => cases r with
    | none => exact hS
    | some u => exact hS.set (hc j rfl) _
theorem fin_left {P : Program} {S T : St} {c : Option Nat} {r : Option DVal} {d d' : D} {K : D → St → Prop} (hS : S.WF) (hc : ∀ j, c = some j → j < S.next) (hT : (leftS S c r).Sub T) (hd : d = d') (hcl : d'.closed) (hK : K d' (leftS S c r)) : DFin S T d K := by
  subst hd
  have hn : (leftS S c r).next = S.next := leftS_next S c r
  refine ⟨d, leftS S c r, DLe.refl _, D.all_mono (fun _ h => h.elim) hcl, hT.next, Nat.le_of_eq hn.symm, fun k o hk => ⟨hT.ob k o hk, (leftS_wf hS hc r).lt hk, fun t cs ho => ?_⟩, hK⟩
  cases c with
  | none => cases r <;> exact .inl hk
  | some j => cases r with
    | none => exact .inl hk
    | some u =>
      simp only [leftS, set_ob] at hk
      split at hk
      · right
        injection hk with hk
        rw [← hk] at ho
        injection ho with _ ho
        rw [← ho]
        exact allL_closed (encV_cells_closed u)
      · exact .inl hk
theorem cells_encP (p : DStp) : (encP p).cells.length = 2 := rfl
theorem agg_encP (p : DStp) : D.agg (encP p).cells = encP p := rfl
theorem take_encP (p : DStp) : (encP p).cells.take 2 = (encP p).cells := rfl
theorem okCell_encP (p : DStp) : (encP p).okCell = true := rfl
theorem take_splice_V (v : DVal) (l : List D) : ((encV v).cells ++ l).take 6 = (encV v).cells := by
  rw [List.take_append, cells_encV, List.take_of_length_le (by rw [cells_encV]; omega)]; simp
attribute [go_sem] cells_encP agg_encP take_encP okCell_encP take_splice_V
theorem closed_res (v : DVal) (b : Bool) : (D.tup [encV v, .v (.bool b)]).closed := by
  simp only [D.closed, D.all, allL, and_true]; exact closed_encV v
set_option maxRecDepth 200000 in
set_option maxHeartbeats 8000000 in

theorem change_d (g : FuncId) (fs cs : List D) (fV : DVal → DVal) (c : Option Nat) : ∀ (ps : List DStp) (own : Own) (v : DVal) (S : St), okV v → v.weight ≤ 1000000 → ps.length ≤ 1000000 → VisOk g fs cs fV c S →
    DCalls Try.prog 66 [encV v, .sl own (ps.map encP), .fn (.func g) fs cs] S (fun d S' => d = .tup [encV (chV fV ps v), .v (.bool (getV ps v).isSome)] ∧ S' = leftS S c (getV ps v)) := by
  intro ps
  induction ps with
  | nil =>
    intro own v S hok hw hl hv
    refine dcalls_of_dwp mixed Try.func66 rfl (fun _ _ => by kernel_rfl) (rs := [.cell 6 28, .tmp 7]) rfl (by kernel_rfl) (fun hS => ?_)
    have hL : ∀ {S1 : St} {r : Option DVal} {k : Nat}, S.next ≤ k → (leftS S1 c r).ob k = S1.ob k := fun h => leftS_ob fun j hj => by have := hv.1 j hj; omega
    (simp (disch := first | decide | omega | (simp only [nx, leftS_next]; first | done | omega)) only [go_sem, Nat.reduceMul]; (repeat (with_reducible refine And.intro (by first | omega | assumption | rfl) ?_)))
    refine (hv.2 _ v (by (repeat' first | assumption | exact St.Sub.refl _ | exact RowOk.sub (by assumption) (by assumption) | refine St.Sub.trans ?_ (RowOk.sub (by assumption) (by assumption)) | refine St.Sub.add ?_ ?_ _ | refine St.Sub.set ?_ ?_ ?_ _ | refine St.Sub.keep ?_ ?_ | refine St.WF.leave ?_ _ | refine St.WF.add ?_ _ | refine St.WF.set ?_ ?_ _ | refine St.WF.grow ?_ _ _ _ | refine St.WF.keep ?_ ?_ | (first | omega | (simp only [RowOk.lo, nx]; first | done | omega)))) (by (repeat' first | assumption | refine St.WF.leave ?_ _ | refine St.WF.add ?_ _ | refine St.WF.set ?_ ?_ _ | refine St.WF.grow ?_ _ _ _ | refine St.WF.keep ?_ ?_ | (first | omega | (simp only [RowOk.lo, nx]; first | done | omega)))) hw).mono ?_
    rintro d T ⟨rfl, rfl⟩
    (simp (disch := first | decide | omega | (simp only [nx, leftS_next]; first | done | omega)) only [go_sem, Nat.reduceMul, hL, leftS_next]; (repeat (with_reducible refine And.intro (by first | omega | assumption | rfl) ?_)))
    refine DFin.t (fin_left (P := Try.prog) (c := c) (r := some v) hS hv.1 ?_ rfl (closed_res _ _) ?_)
    · refine St.Sub.set (leftS_sub hS (by (repeat' first | assumption | exact St.Sub.refl _ | exact RowOk.sub (by assumption) (by assumption) | refine St.Sub.trans ?_ (RowOk.sub (by assumption) (by assumption)) | refine St.Sub.add ?_ ?_ _ | refine St.Sub.set ?_ ?_ ?_ _ | refine St.Sub.keep ?_ ?_ | refine St.WF.leave ?_ _ | refine St.WF.add ?_ _ | refine St.WF.set ?_ ?_ _ | refine St.WF.grow ?_ _ _ _ | refine St.WF.keep ?_ ?_ | (first | omega | (simp only [RowOk.lo, nx]; first | done | omega))))) (leftS_wf hS hv.1 _) ?_ _
      rw [leftS_next]; omega
    · exact ⟨rfl, rfl⟩
  | cons p ps ih =>
    intro own v S hok hw hl hv
    refine dcalls_of_dwp mixed Try.func66 rfl (fun _ _ => by kernel_rfl) (rs := [.cell 6 28, .tmp 7]) rfl (by kernel_rfl) (fun hS => ?_)
    have hL : ∀ {S1 : St} {r : Option DVal} {k : Nat}, S.next ≤ k → (leftS S1 c r).ob k = S1.ob k := fun h => leftS_ob fun j hj => by have := hv.1 j hj; omega
    have b0 : (((ps.length + 1 : Nat) : Int) == 0) = false := by simp; omega
    (simp (disch := first | decide | omega | (simp only [nx, leftS_next]; first | done | omega)) only [go_sem, Nat.reduceMul, b0]; (repeat (with_reducible refine And.intro (by first | omega | assumption | rfl) ?_)))
    refine ddraw_mk 10 (by kernel_rfl) ?_
    (simp (disch := first | decide | omega | (simp only [nx, leftS_next]; first | done | omega)) only [go_sem, Nat.reduceMul]; (repeat (with_reducible refine And.intro (by first | omega | assumption | rfl) ?_)))
    refine dqgo_mk (part_d v p hok hw) ?_
    by_cases hin : inP v p
    · have e1 : (decide (0 ≤ placeOf v p) && decide (placeOf v p < (v.parts.length : Int))) = true := by rw [decide_eq_true hin.1, decide_eq_true hin.2]; rfl
      have hpl : (placeOf v p).toNat < v.parts.length := by have := hin.1; have := hin.2; omega
      have hx := getD_map encV v.parts _ hpl
      have cv : (encV v).cells = [.v (.int .i64 v.kind), .v (.int .i64 v.n), strD v.s, .sl .no (v.names.map strD), .sl .no (v.ids.map u64D), .sl .no (v.parts.map encV)] := by rw [encV_eq]; rfl
      obtain ⟨o1, o2, o3, o4, o5, o6, o7, o8, o9⟩ := (okV_eq v).1 hok
      have hgd : v.parts.getD (plN v p) default = v.parts[(placeOf v p).toNat] := getD_at hpl
      have hget : getV (p :: ps) v = getV ps v.parts[(placeOf v p).toNat] := by rw [getV_cons, if_pos hin, hgd]
      have hch : chV fV (p :: ps) v = v.withParts (v.parts.set (placeOf v p).toNat (chV fV ps v.parts[(placeOf v p).toNat])) := by rw [chV, if_pos hin, hgd]; rfl
      have hxo : okV v.parts[(placeOf v p).toNat] := o9 _ (List.getElem_mem hpl)
      have hxw : v.parts[(placeOf v p).toNat].weight ≤ 1000000 := by have := DVal.weight_part (List.getElem_mem hpl); omega
      rw [hget, hch]
      have c1 := hin.1
      have c2 := hin.2
      clear hget hch hgd hin
      have ih' := fun S' (hs : S.Sub S') => ih .no v.parts[(placeOf v p).toNat] S' hxo hxw (by simp only [List.length_cons] at hl; omega) (hv.sub hs)
      clear ih
      generalize v.parts[(placeOf v p).toNat] = x at *
      generalize getV ps x = r at *
      generalize chV fV ps x = y at *
      (simp (disch := first | decide | omega | (simp only [nx, leftS_next]; first | done | omega)) only [go_sem, Nat.reduceMul, partV, e1]; (repeat (with_reducible refine And.intro (by first | omega | assumption | rfl) ?_)))
      refine ddraw_cut (fun f' T => ∃ n0, f' 3 = .loc S.next 0 ∧ f' 6 = .loc (S.next + 1) 0 ∧ f' 8 = .v (.int .i64 (placeOf v p)) ∧ f' 9 = .v (.bool r.isSome) ∧ f' 10 = .loc n0 0 ∧
        T.ob S.next = some (.box 28 (encV v).cells) ∧ T.ob (S.next + 1) = some (.box 28 [.v (.int .i64 0), .v (.int .i64 0), .v (.string ⟨#[]⟩), .sl .full [], .sl .full [], .sl .full []]) ∧ T.ob n0 = some (.box 28 (encV y).cells) ∧ S.next + 2 ≤ n0 ∧ n0 < T.next ∧ (leftS S c r).Sub T) ?_ ?_
      · refine ddraw_any (fun S' => S'.ob S.next = some (.box 28 (encV v).cells)) 15 (by (first | (simp (disch := first | decide | omega | (simp only [nx, leftS_next]; first | done | omega)) only [go_sem, Nat.reduceMul]; first | done | rfl) | rfl)) (by kernel_rfl) ?_
        (refine s_take 0 rfl (by kernel_rfl) (by kernel_rfl) (v := .loc S.next 5) (fun S' hz => dquietR_of (by (simp (disch := first | decide | omega | (simp only [nx, leftS_next]; first | done | omega)) only [go_sem, Nat.reduceMul]; (repeat (with_reducible refine And.intro (by first | omega | assumption | rfl) ?_))); first | done | rfl | omega)) ?_)
        (refine s_take 1 rfl (by kernel_rfl) (by kernel_rfl) (v := .sl .no (v.parts.map encV)) (fun S' hz => dquietR_of (by (simp (disch := first | decide | omega | (simp only [nx, leftS_next]; first | done | omega)) only [go_sem, Nat.reduceMul, hz, cv]; (repeat (with_reducible refine And.intro (by first | omega | assumption | rfl) ?_))); first | done | rfl | omega)) ?_)
        (refine s_take 2 rfl (by kernel_rfl) (by kernel_rfl) (v := .v (.int .i64 (placeOf v p))) (fun S' hz => dquietR_of (by (simp (disch := first | decide | omega | (simp only [nx, leftS_next]; first | done | omega)) only [go_sem, Nat.reduceMul]; (repeat (with_reducible refine And.intro (by first | omega | assumption | rfl) ?_))); first | done | rfl | omega)) ?_)
        (refine s_take 3 rfl (by kernel_rfl) (by kernel_rfl) (v := .rd (encV x).cells 0) (fun S' hz => dquietR_of (by (simp (disch := first | decide | omega | (simp only [nx, leftS_next]; first | done | omega)) only [go_sem, Nat.reduceMul, hx, c1, c2]; (repeat (with_reducible refine And.intro (by first | omega | assumption | rfl) ?_))); first | done | rfl | omega)) ?_)
        (refine s_take 4 rfl (by kernel_rfl) (by kernel_rfl) (v := encV x) (fun S' hz => dquietR_of (by (simp (disch := first | decide | omega | (simp only [nx, leftS_next]; first | done | omega)) only [go_sem, Nat.reduceMul]; (repeat (with_reducible refine And.intro (by first | omega | assumption | rfl) ?_))); first | done | rfl | omega)) ?_)
        (refine s_take 5 rfl (by kernel_rfl) (by kernel_rfl) (v := .sl own ((p :: ps).map encP)) (fun S' hz => dquietR_of (by (simp (disch := first | decide | omega | (simp only [nx, leftS_next]; first | done | omega)) only [go_sem, Nat.reduceMul]; (repeat (with_reducible refine And.intro (by first | omega | assumption | rfl) ?_))); first | done | rfl | omega)) ?_)
        (refine s_take 6 rfl (by kernel_rfl) (by kernel_rfl) (v := .sl .no (ps.map encP)) (fun S' hz => dquietR_of (by (simp (disch := first | decide | omega | (simp only [nx, leftS_next]; first | done | omega)) only [go_sem, Nat.reduceMul, Nat.reduceSub, List.drop_one, List.tail_cons]; (repeat (with_reducible refine And.intro (by first | omega | assumption | rfl) ?_))); first | done | rfl | omega)) ?_)
        (refine s_take 7 rfl (by kernel_rfl) (by kernel_rfl) (v := .fn (.func g) fs cs) (fun S' hz => dquietR_of (by (simp (disch := first | decide | omega | (simp only [nx, leftS_next]; first | done | omega)) only [go_sem, Nat.reduceMul]; (repeat (with_reducible refine And.intro (by first | omega | assumption | rfl) ?_))); first | done | rfl | omega)) ?_)
        refine s_split [8, 12] (by kernel_rfl) (by simp) ?_
        intro i hi
        simp only [List.mem_cons, List.not_mem_nil, or_false] at hi
        rcases hi with rfl | rfl
        · refine s_op rfl ?_
          (simp (disch := first | decide | omega | (simp only [nx, leftS_next]; first | done | omega)) only [go_sem, Nat.reduceMul]; (repeat (with_reducible refine And.intro (by first | omega | assumption | rfl) ?_)))
          refine (ih' _ (by (repeat' first | assumption | exact St.Sub.refl _ | exact RowOk.sub (by assumption) (by assumption) | refine St.Sub.trans ?_ (RowOk.sub (by assumption) (by assumption)) | refine St.Sub.add ?_ ?_ _ | refine St.Sub.set ?_ ?_ ?_ _ | refine St.Sub.keep ?_ ?_ | refine St.WF.leave ?_ _ | refine St.WF.add ?_ _ | refine St.WF.set ?_ ?_ _ | refine St.WF.grow ?_ _ _ _ | refine St.WF.keep ?_ ?_ | (first | omega | (simp only [RowOk.lo, nx]; first | done | omega))))).mono ?_
          rintro d T ⟨rfl, rfl⟩
          refine ⟨by (first | (simp (disch := first | decide | omega | (simp only [nx, leftS_next]; first | done | omega)) only [go_sem, Nat.reduceMul, hL]; first | done | rfl) | rfl), ?_⟩
          (refine s_take 9 rfl (by kernel_rfl) (by kernel_rfl) (v := .tup [encV y, .v (.bool r.isSome)]) (fun S' hz => dquietR_of (by (simp (disch := first | decide | omega | (simp only [nx, leftS_next]; first | done | omega)) only [go_sem, Nat.reduceMul]; (repeat (with_reducible refine And.intro (by first | omega | assumption | rfl) ?_))); first | done | rfl | omega)) ?_)
          (refine s_take 10 rfl (by kernel_rfl) (by kernel_rfl) (v := encV y) (fun S' hz => dquietR_of (by (simp (disch := first | decide | omega | (simp only [nx, leftS_next]; first | done | omega)) only [go_sem, Nat.reduceMul]; (repeat (with_reducible refine And.intro (by first | omega | assumption | rfl) ?_))); first | done | rfl | omega)) ?_)
          (refine s_take 11 rfl (by kernel_rfl) (by kernel_rfl) (v := .v (.bool r.isSome)) (fun S' hz => dquietR_of (by (simp (disch := first | decide | omega | (simp only [nx, leftS_next]; first | done | omega)) only [go_sem, Nat.reduceMul]; (repeat (with_reducible refine And.intro (by first | omega | assumption | rfl) ?_))); first | done | rfl | omega)) ?_)
          refine s_split [12] (by kernel_rfl) (by simp) ?_
          intro i hi
          obtain rfl : i = 12 := by simpa using hi
          refine s_op rfl ?_
          (simp (disch := first | decide | omega | (simp only [nx, leftS_next]; first | done | omega)) only [go_sem, Nat.reduceMul, hL, leftS_next]; (repeat (with_reducible refine And.intro (by first | omega | assumption | rfl) ?_)))
          refine s_split [13] (by kernel_rfl) (by simp) ?_
          intro i hi
          obtain rfl : i = 13 := by simpa using hi
          refine s_op rfl ?_
          (simp (disch := first | decide | omega | (simp only [nx, leftS_next]; first | done | omega)) only [go_sem, Nat.reduceMul, hL, leftS_next]; (repeat (with_reducible refine And.intro (by first | omega | assumption | rfl) ?_)))
          (refine s_take 14 rfl (by kernel_rfl) (by kernel_rfl) (v := .v (.bool r.isSome)) (fun S' hz => dquietR_of (by (simp (disch := first | decide | omega | (simp only [nx, leftS_next]; first | done | omega)) only [go_sem, Nat.reduceMul]; (repeat (with_reducible refine And.intro (by first | omega | assumption | rfl) ?_))); first | done | rfl | omega)) ?_)
          refine s_done (by kernel_rfl) ?_
          (simp (disch := first | decide | omega | (simp only [nx, leftS_next]; first | done | omega)) only [go_sem, Nat.reduceMul, hL, leftS_next]; (repeat (with_reducible refine And.intro (by first | omega | assumption | rfl) ?_)))
          refine ⟨S.next + 1 + 1, ?_⟩
          (simp (disch := first | decide | omega | (simp only [nx, leftS_next]; first | done | omega)) only [go_sem, Nat.reduceMul, hL, leftS_next]; (repeat (with_reducible refine And.intro (by first | omega | assumption | rfl) ?_)))
          refine St.Sub.set (St.Sub.add (leftS_sub hS (by (repeat' first | assumption | exact St.Sub.refl _ | exact RowOk.sub (by assumption) (by assumption) | refine St.Sub.trans ?_ (RowOk.sub (by assumption) (by assumption)) | refine St.Sub.add ?_ ?_ _ | refine St.Sub.set ?_ ?_ ?_ _ | refine St.Sub.keep ?_ ?_ | refine St.WF.leave ?_ _ | refine St.WF.add ?_ _ | refine St.WF.set ?_ ?_ _ | refine St.WF.grow ?_ _ _ _ | refine St.WF.keep ?_ ?_ | (first | omega | (simp only [RowOk.lo, nx]; first | done | omega))))) (leftS_wf hS hv.1 r) _) (leftS_wf hS hv.1 r) ?_ _
          rw [leftS_next]; omega
        · refine s_op rfl ?_
          (simp (disch := first | decide | omega | (simp only [nx, leftS_next]; first | done | omega)) only [go_sem, Nat.reduceMul]; (repeat (with_reducible refine And.intro (by first | omega | assumption | rfl) ?_)))
          refine s_split [8] (by kernel_rfl) (by simp) ?_
          intro i hi
          obtain rfl : i = 8 := by simpa using hi
          refine s_op rfl ?_
          (simp (disch := first | decide | omega | (simp only [nx, leftS_next]; first | done | omega)) only [go_sem, Nat.reduceMul]; (repeat (with_reducible refine And.intro (by first | omega | assumption | rfl) ?_)))
          refine (ih' _ (by (repeat' first | assumption | exact St.Sub.refl _ | exact RowOk.sub (by assumption) (by assumption) | refine St.Sub.trans ?_ (RowOk.sub (by assumption) (by assumption)) | refine St.Sub.add ?_ ?_ _ | refine St.Sub.set ?_ ?_ ?_ _ | refine St.Sub.keep ?_ ?_ | refine St.WF.leave ?_ _ | refine St.WF.add ?_ _ | refine St.WF.set ?_ ?_ _ | refine St.WF.grow ?_ _ _ _ | refine St.WF.keep ?_ ?_ | (first | omega | (simp only [RowOk.lo, nx]; first | done | omega))))).mono ?_
          rintro d T ⟨rfl, rfl⟩
          refine ⟨by (first | (simp (disch := first | decide | omega | (simp only [nx, leftS_next]; first | done | omega)) only [go_sem, Nat.reduceMul, hL]; first | done | rfl) | rfl), ?_⟩
          (refine s_take 9 rfl (by kernel_rfl) (by kernel_rfl) (v := .tup [encV y, .v (.bool r.isSome)]) (fun S' hz => dquietR_of (by (simp (disch := first | decide | omega | (simp only [nx, leftS_next]; first | done | omega)) only [go_sem, Nat.reduceMul]; (repeat (with_reducible refine And.intro (by first | omega | assumption | rfl) ?_))); first | done | rfl | omega)) ?_)
          (refine s_take 10 rfl (by kernel_rfl) (by kernel_rfl) (v := encV y) (fun S' hz => dquietR_of (by (simp (disch := first | decide | omega | (simp only [nx, leftS_next]; first | done | omega)) only [go_sem, Nat.reduceMul]; (repeat (with_reducible refine And.intro (by first | omega | assumption | rfl) ?_))); first | done | rfl | omega)) ?_)
          (refine s_take 11 rfl (by kernel_rfl) (by kernel_rfl) (v := .v (.bool r.isSome)) (fun S' hz => dquietR_of (by (simp (disch := first | decide | omega | (simp only [nx, leftS_next]; first | done | omega)) only [go_sem, Nat.reduceMul]; (repeat (with_reducible refine And.intro (by first | omega | assumption | rfl) ?_))); first | done | rfl | omega)) ?_)
          refine s_split [13] (by kernel_rfl) (by simp) ?_
          intro i hi
          obtain rfl : i = 13 := by simpa using hi
          refine s_op rfl ?_
          (simp (disch := first | decide | omega | (simp only [nx, leftS_next]; first | done | omega)) only [go_sem, Nat.reduceMul, hL, leftS_next]; (repeat (with_reducible refine And.intro (by first | omega | assumption | rfl) ?_)))
          (refine s_take 14 rfl (by kernel_rfl) (by kernel_rfl) (v := .v (.bool r.isSome)) (fun S' hz => dquietR_of (by (simp (disch := first | decide | omega | (simp only [nx, leftS_next]; first | done | omega)) only [go_sem, Nat.reduceMul]; (repeat (with_reducible refine And.intro (by first | omega | assumption | rfl) ?_))); first | done | rfl | omega)) ?_)
          refine s_done (by kernel_rfl) ?_
          (simp (disch := first | decide | omega | (simp only [nx, leftS_next]; first | done | omega)) only [go_sem, Nat.reduceMul, hL, leftS_next]; (repeat (with_reducible refine And.intro (by first | omega | assumption | rfl) ?_)))
          refine ⟨S.next + 1 + 1, ?_⟩
          (simp (disch := first | decide | omega | (simp only [nx, leftS_next]; first | done | omega)) only [go_sem, Nat.reduceMul, hL, leftS_next]; (repeat (with_reducible refine And.intro (by first | omega | assumption | rfl) ?_)))
          refine St.Sub.set (leftS_sub hS (by (repeat' first | assumption | exact St.Sub.refl _ | exact RowOk.sub (by assumption) (by assumption) | refine St.Sub.trans ?_ (RowOk.sub (by assumption) (by assumption)) | refine St.Sub.add ?_ ?_ _ | refine St.Sub.set ?_ ?_ ?_ _ | refine St.Sub.keep ?_ ?_ | refine St.WF.leave ?_ _ | refine St.WF.add ?_ _ | refine St.WF.set ?_ ?_ _ | refine St.WF.grow ?_ _ _ _ | refine St.WF.keep ?_ ?_ | (first | omega | (simp only [RowOk.lo, nx]; first | done | omega))))) (leftS_wf hS hv.1 r) ?_ _
          rw [leftS_next]; omega
      · rintro f' T ⟨n0, q3, q6, q8, q9, q10, t0, t1, t2, n1, n2, hsub⟩
        (simp (disch := first | decide | omega | (simp only [nx, leftS_next]; first | done | omega)) only [go_sem, Nat.reduceMul, q3, q6, q8, q9, q10, t0, t1, t2, cv]; (repeat (with_reducible refine And.intro (by first | omega | assumption | rfl) ?_)))
        have hpos : 0 < v.parts.length := by omega
        have hpl0 := partsLen v
        have hwe := v.weight_eq
        refine dapp_win rfl ⟨rfl, rfl, by simpa using hpos, rfl, by (first | (simp (disch := first | decide | omega | (simp only [nx, leftS_next]; first | done | omega)) only [go_sem, Nat.reduceMul]; first | done | rfl) | rfl), by (first | (simp (disch := first | decide | omega | (simp only [nx, leftS_next]; first | done | omega)) only [go_sem, Nat.reduceMul]; first | done | rfl) | rfl), (fun d hd => by obtain ⟨u, _, rfl⟩ := List.mem_map.1 hd; exact cells_encV u), by rw [List.length_map]; omega, by simp (disch := first | decide | omega | (simp only [nx, leftS_next]; first | done | omega)) only [go_sem, Nat.reduceMul]; omega, fun cw zs _ _ => ?_⟩
        (simp (disch := first | decide | omega | (simp only [nx, leftS_next]; first | done | omega)) only [go_sem, Nat.reduceMul, q3, q6, q8, q9, q10, t0, t1, t2, cv]; (repeat (with_reducible refine And.intro (by first | omega | assumption | rfl) ?_)))
        have hwid : ∀ d ∈ List.map encV v.parts, d.width = 6 := fun d hd => by obtain ⟨u, _, rfl⟩ := List.mem_map.1 hd; exact cells_encV u
        have hlen : (placeOf v p).toNat < (List.map encV v.parts).length := by rw [List.length_map]; omega
        refine ⟨by rw [List.length_append, dflat_length hwid]; simp; omega, ?_⟩
        rw [splice_flat' hlen hwid (cells_encV y)]
        have hwid2 : ∀ d ∈ (List.map encV v.parts).set (placeOf v p).toNat (encV y), d.width = szOf Try.prog 28 := fun d hd => by
          simp (disch := first | decide | omega | (simp only [nx, leftS_next]; first | done | omega)) only [go_sem, Nat.reduceMul]
          rcases List.mem_or_eq_of_mem_set hd with hd | rfl
          · exact hwid d hd
          · exact cells_encV y
        refine ⟨_, _, thaw_win (k := T.next) (zs := zs) (by (first | (simp (disch := first | decide | omega | (simp only [nx, leftS_next]; first | done | omega)) only [go_sem, Nat.reduceMul]; first | done | rfl) | rfl)) (by simp (disch := first | decide | omega | (simp only [nx, leftS_next]; first | done | omega)) only [go_sem, Nat.reduceMul]) hwid2 rfl, ?_⟩
        have hlw := leftS_wf hS hv.1 r
        have hln := leftS_next S c r
        have hnx := hsub.next
        refine fin_left (P := Try.prog) (c := c) (r := r) hS hv.1 ?_ ?_ (closed_res _ _) ⟨rfl, rfl⟩
        · refine St.Sub.drop (St.Sub.set (St.Sub.set (St.Sub.set (St.Sub.add hsub hlw _) hlw ?_ _) hlw ?_ _) hlw ?_ _) hlw ?_ <;> (rw [hln] at *; omega)
        · simp only [D.thaw, thawL, List.length_set, List.length_map, Nat.beq_refl, Bool.and_self, cond_true]
          rw [encV_eq (v.withParts _), ← List.map_set]
          rfl
    · have e1 : (decide (0 ≤ placeOf v p) && decide (placeOf v p < (v.parts.length : Int))) = false := by
        cases h : (decide (0 ≤ placeOf v p) && decide (placeOf v p < (v.parts.length : Int))) with
        | false => rfl
        | true => rw [Bool.and_eq_true, decide_eq_true_eq, decide_eq_true_eq] at h; exact absurd h hin
      have hg : getV (p :: ps) v = none := by rw [getV_cons, if_neg hin]
      have hc : chV fV (p :: ps) v = v := by rw [chV, if_neg hin]
      (simp (disch := first | decide | omega | (simp only [nx, leftS_next]; first | done | omega)) only [go_sem, Nat.reduceMul, partV, e1]; (repeat (with_reducible refine And.intro (by first | omega | assumption | rfl) ?_)))
      rw [hg, hc]
      refine DFin.t (fin_left (P := Try.prog) (c := c) (r := none) hS hv.1 ?_ rfl (closed_res _ _) ?_)
      · have : leftS S c none = S := by cases c <;> rfl
        rw [this]
        exact (by (repeat' first | assumption | exact St.Sub.refl _ | exact RowOk.sub (by assumption) (by assumption) | refine St.Sub.trans ?_ (RowOk.sub (by assumption) (by assumption)) | refine St.Sub.add ?_ ?_ _ | refine St.Sub.set ?_ ?_ ?_ _ | refine St.Sub.keep ?_ ?_ | refine St.WF.leave ?_ _ | refine St.WF.add ?_ _ | refine St.WF.set ?_ ?_ _ | refine St.WF.grow ?_ _ _ _ | refine St.WF.keep ?_ ?_ | (first | omega | (simp only [RowOk.lo, nx]; first | done | omega))))
      · exact ⟨rfl, rfl⟩
end Go.Proofs.Ytjjhjhjphhpeiaa

namespace Go.Proofs.Ytjjhjhjphhpeiaa
open Go.ChangeShapes Go.WideShapes Go.ChangeAt Go.RowKit Go.Deep Go.Joins
section
variable {H : Type} {enc : TypeId × Value → H} {w : World}
/-- A slice of single cells. -/
theorem open_cells {P : Program} {α : Type} (g : α → Value) (hg : ∀ a, (g a).oneCell' = true) {t el : TypeId} {bytes : Nat} (ht : P.underlying t = some (.slice el)) (hc : P.cellsOf el = 1) (hby : P.bytesOf el = bytes) (hb0 : 0 < bytes) (Q : α → Prop)
    (elem : ∀ (fuel : Nat) (u : Value) (x : DataW H × List MemPlace), DataW.trod enc P w 0 (fun _ => true) true fuel el [u] = some x → Sized P el x.1 → ∃ d, Q d ∧ u = g d)
    {v : Value} {d : DataW H} {p : List MemPlace} {W : World} {base : Nat} (h : DataW.Trod enc P w 0 (fun _ => true) true t v d p) (hs : Sized P t d) (hk : Value.okWide P W .any base t v) :
    ∃ l : List α, (∀ a ∈ l, Q a) ∧ l.length ≤ 140737488351232 ∧ ∀ (η : Names) (X : Nat → Nat → Prop), (∀ b i, X b i) → Rep P w η X (.sl .no (l.map fun a => .v (g a))) v := by
  obtain ⟨A, c, l, rfl, hlc, hr, hb⟩ := open_rows (α := α) ht hc (by omega) hby hb0 (fun b o a => Q a ∧ w.cell? ⟨b, o, none⟩ = some (g a)) (fun fuel cs x b o _ hx hsx hlen hcell => by
    match cs, hlen with
    | [u], _ =>
      obtain ⟨d, hd, rfl⟩ := elem fuel u x hx hsx
      exact ⟨d, hd, hcell 0 _ rfl⟩) h hs hk
  have hbb : l.length ≤ 140737488351232 := by
    have : c * 1 ≤ c * bytes := Nat.mul_le_mul_left _ hb0
    omega
  refine ⟨l, fun a ha => ?_, hbb, fun η X hX => ?_⟩
  · obtain ⟨i, hi, rfl⟩ := List.getElem_of_mem ha
    obtain ⟨b, o, _, _, hf⟩ := hr (by omega)
    exact (hf i _ (List.getElem?_eq_getElem hi)).1
  · simp only [Rep]
    refine ⟨A, c, by rw [List.length_map], by rw [List.length_map]; exact hlc, by rw [List.length_map]; omega, trivial, fun h0 => ?_⟩
    rw [List.length_map] at h0
    obtain ⟨b, o, e, hbl, hf⟩ := hr h0
    refine ⟨b, o, 1, e, by omega, RepE.mk fun i d hd => ?_⟩
    rw [List.getElem?_map] at hd
    cases hi : l[i]? with
    | none => rw [hi] at hd; cases hd
    | some a =>
      rw [hi] at hd
      injection hd with hd
      subst hd
      exact ⟨by simp only [RepA], fun _ => ⟨rfl, hX _ _, g a, (hf i a hi).2, hg a, by simp only [Rep]⟩⟩
set_option maxRecDepth 20000 in
theorem open_u8l {v : Value} {d : DataW H} {p : List MemPlace} {W : World} {base : Nat} (h : DataW.Trod enc Try.prog w 0 (fun _ => true) true 61 v d p) (hs : Sized Try.prog 61 d) (hk : Value.okWide Try.prog W .any base 61 v) :
    ∃ l : List UInt8, (∀ a ∈ l, True) ∧ l.length ≤ 140737488351232 ∧ ∀ (η : Names) (X : Nat → Nat → Prop), (∀ b i, X b i) → Rep Try.prog w η X (.sl .no (l.map bD)) v :=
  open_cells (P := Try.prog) (fun n : UInt8 => Value.int .u8 (n.toNat : Int)) (fun _ => rfl) (bytes := 1) Try.underlying61 (by kernel_rfl) (by kernel_rfl) (by omega) (fun a => True) (fun fuel u x hx _ => by
    obtain ⟨n, e, _, hw⟩ := DataW.trod_int Try.underlying5 hx
    have hb := bounds_u8 hw
    injection e with e _
    refine ⟨UInt8.ofNat n.toNat, trivial, ?_⟩
    have e2 : (((UInt8.ofNat n.toNat).toNat : Nat) : Int) = n := by
      rw [UInt8.toNat_ofNat_of_lt' (by show n.toNat < 256; omega)]; omega
    rw [e2]; exact e) h hs hk
theorem open_num {P : Program} {t : TypeId} {k : IntKind} (ht : P.underlying t = some (.int k)) {v : Value} {d : DataW H} {p : List MemPlace} {W : World} {base : Nat} (hk : Value.okWide P W .any base t v) : ∃ n : Int, k.min ≤ n ∧ n ≤ k.max ∧ v = .int k n := by
  simp only [Value.okWide, Cell.okWide, ht] at hk
  unfold Cell.ok at hk
  rw [ht] at hk
  cases v with
  | int k' n =>
    simp only at hk
    obtain ⟨rfl, h⟩ := hk
    exact ⟨n, h.1, h.2, rfl⟩
  | _ => simp at hk
end
end Go.Proofs.Ytjjhjhjphhpeiaa

namespace Go.Proofs.Ytjjhjhjphhpeiaa
open Go.RowKit
set_option linter.unusedSimpArgs false
def getD_ (v : DVal) (ps : List DStp) : D := .tup [encV ((getV ps v).getD zeroV), .v (.bool (getV ps v).isSome)]
set_option maxRecDepth 200000 in
set_option maxHeartbeats 8000000 in
theorem get_d (v : DVal) (ps : List DStp) (own : Own) (hok : okV v) (hw : v.weight ≤ 1000000) (hl : ps.length ≤ 1000000) : DPure Try.prog 40 [encV v, .sl own (ps.map encP)] (getD_ v ps) := by
  refine dpure_of_dwp mixed Try.func40 rfl (fun _ _ => by kernel_rfl) (rs := [.cell 4 28, .tmp 5]) rfl (by kernel_rfl) (closed_res _ _) (fun S hS => ?_)
  (simp (disch := first | decide | omega | (simp only [nx]; first | done | omega)) only [go_sem, Nat.reduceMul]; (repeat (with_reducible refine And.intro (by first | omega | assumption | rfl) ?_)))
  refine (change_d 67 [] [.loc (S.next + 1 + 1) 0] id (some (S.next + 1 + 1)) ps own v _ hok hw hl ⟨fun j hj => ?_, fun S' u hs hS' hu => ?_⟩).mono ?_
  · injection hj with hj
    subst hj
    simp (disch := first | decide | omega | (simp only [nx]; first | done | omega)) only [go_sem, Nat.reduceMul]
    omega
  · exact get1_d S' _ _ (hs.ob _ _ (by simp (disch := first | decide | omega | (simp only [nx]; first | done | omega)) only [go_sem, Nat.reduceMul]; rfl)) rfl u hu
  · rintro d T ⟨rfl, rfl⟩
    unfold getD_
    cases hg : getV ps v with
    | none =>
      (simp (disch := first | decide | omega | (simp only [nx]; first | done | omega)) only [go_sem, Nat.reduceMul, leftS]; (repeat (with_reducible refine And.intro (by first | omega | assumption | rfl) ?_)))
      refine ⟨?_, (by (repeat' first | assumption | exact St.Sub.refl _ | exact RowOk.sub (by assumption) (by assumption) | refine St.Sub.trans ?_ (RowOk.sub (by assumption) (by assumption)) | refine St.Sub.add ?_ ?_ _ | refine St.Sub.set ?_ ?_ ?_ _ | refine St.Sub.keep ?_ ?_ | refine St.WF.leave ?_ _ | refine St.WF.add ?_ _ | refine St.WF.set ?_ ?_ _ | refine St.WF.grow ?_ _ _ _ | refine St.WF.keep ?_ ?_ | (first | omega | (simp only [RowOk.lo, nx]; first | done | omega))))⟩
      rfl
    | some u =>
      (simp (disch := first | decide | omega | (simp only [nx]; first | done | omega)) only [go_sem, Nat.reduceMul, leftS]; (repeat (with_reducible refine And.intro (by first | omega | assumption | rfl) ?_)))
      refine ⟨?_, (by (repeat' first | assumption | exact St.Sub.refl _ | exact RowOk.sub (by assumption) (by assumption) | refine St.Sub.trans ?_ (RowOk.sub (by assumption) (by assumption)) | refine St.Sub.add ?_ ?_ _ | refine St.Sub.set ?_ ?_ ?_ _ | refine St.Sub.keep ?_ ?_ | refine St.WF.leave ?_ _ | refine St.WF.add ?_ _ | refine St.WF.set ?_ ?_ _ | refine St.WF.grow ?_ _ _ _ | refine St.WF.keep ?_ ?_ | (first | omega | (simp only [RowOk.lo, nx]; first | done | omega))))⟩
      simp only [D.frz, frzL, frz_encV]
      rfl
set_option maxRecDepth 200000 in
set_option maxHeartbeats 8000000 in
theorem put1_d (S : St) (j : Nat) (x u : DVal) (hc : S.ob j = some (.box 28 (encV x).cells)) : DCalls Try.prog 105 [encV u, .loc j 0] S (fun d S' => d = encV x ∧ S' = S) := by
  refine dcalls_of_dwp mixed Try.func105 rfl (fun _ _ => by kernel_rfl) (rs := [.cell 3 28]) rfl (by kernel_rfl) (fun hS => ?_)
  have hlt := hS.lt hc
  (simp (disch := first | decide | omega | (simp only [nx]; first | done | omega)) only [go_sem, Nat.reduceMul, hc]; (repeat (with_reducible refine And.intro (by first | omega | assumption | rfl) ?_)))
  exact DFin.t (fin_pure hS (closed_encV x) (by (repeat' first | assumption | exact St.Sub.refl _ | exact RowOk.sub (by assumption) (by assumption) | refine St.Sub.trans ?_ (RowOk.sub (by assumption) (by assumption)) | refine St.Sub.add ?_ ?_ _ | refine St.Sub.set ?_ ?_ ?_ _ | refine St.Sub.keep ?_ ?_ | refine St.WF.leave ?_ _ | refine St.WF.add ?_ _ | refine St.WF.set ?_ ?_ _ | refine St.WF.grow ?_ _ _ _ | refine St.WF.keep ?_ ?_ | (first | omega | (simp only [RowOk.lo, nx]; first | done | omega)))))
set_option maxRecDepth 200000 in
set_option maxHeartbeats 8000000 in
theorem put_d (v x : DVal) (ps : List DStp) (own : Own) (hok : okV v) (hw : v.weight ≤ 1000000) (hl : ps.length ≤ 1000000) (hw2 : (chV (fun _ => x) ps v).weight ≤ 1000000) : DPure Try.prog 80 [encV v, encV x, .sl own (ps.map encP)] (.tup [encV (chV (fun _ => x) ps v), .v (.bool (getV ps v).isSome)]) := by
  refine dpure_of_dwp mixed Try.func80 rfl (fun _ _ => by kernel_rfl) (rs := [.cell 6 28, .tmp 7]) rfl (by kernel_rfl) (closed_res _ _) (fun S hS => ?_)
  (simp (disch := first | decide | omega | (simp only [nx]; first | done | omega)) only [go_sem, Nat.reduceMul]; (repeat (with_reducible refine And.intro (by first | omega | assumption | rfl) ?_)))
  refine (change_d 105 [] [.loc (S.next + 1) 0] (fun _ => x) none ps own v _ hok hw hl ⟨fun j hj => (by cases hj), fun S' u hs hS' hu => ?_⟩).mono ?_
  · exact put1_d S' _ x u (hs.ob _ _ (by simp (disch := first | decide | omega | (simp only [nx]; first | done | omega)) only [go_sem, Nat.reduceMul]))
  · rintro d T ⟨rfl, rfl⟩
    have hl0 : ∀ r, leftS (((S.add (.box 28 (encV v).cells)).add (.box 28 (encV x).cells)).add (.box 28 [.v (.int .i64 0), .v (.int .i64 0), .v (.string ⟨#[]⟩), .sl .full [], .sl .full [], .sl .full []])) none r = (((S.add (.box 28 (encV v).cells)).add (.box 28 (encV x).cells)).add (.box 28 [.v (.int .i64 0), .v (.int .i64 0), .v (.string ⟨#[]⟩), .sl .full [], .sl .full [], .sl .full []])) := fun r => by cases r <;> rfl
    rw [hl0]
    (simp (disch := first | decide | omega | (simp only [nx]; first | done | omega)) only [go_sem, Nat.reduceMul]; (repeat (with_reducible refine And.intro (by first | omega | assumption | rfl) ?_)))
    refine DCalls.of_pure (copyV_d _ _ (Nat.le_refl _) hw2) ?_
    (simp (disch := first | decide | omega | (simp only [nx]; first | done | omega)) only [go_sem, Nat.reduceMul]; (repeat (with_reducible refine And.intro (by first | omega | assumption | rfl) ?_)))
    refine ⟨?_, (by (repeat' first | assumption | exact St.Sub.refl _ | exact RowOk.sub (by assumption) (by assumption) | refine St.Sub.trans ?_ (RowOk.sub (by assumption) (by assumption)) | refine St.Sub.add ?_ ?_ _ | refine St.Sub.set ?_ ?_ ?_ _ | refine St.Sub.keep ?_ ?_ | refine St.WF.leave ?_ _ | refine St.WF.add ?_ _ | refine St.WF.set ?_ ?_ _ | refine St.WF.grow ?_ _ _ _ | refine St.WF.keep ?_ ?_ | (first | omega | (simp only [RowOk.lo, nx]; first | done | omega))))⟩
    simp only [D.frz, frzL, frz_encV]
end Go.Proofs.Ytjjhjhjphhpeiaa

namespace Go.Proofs.Ytjjhjhjphhpeiaa
open Go.RowKit

/-- A slice (or nothing) as a source of m elements' cells. -/
def SrcOk (S : St) (z : Nat) (d : D) (m : Nat) (news : List D) : Prop := match d with
  | .sl _ es => (∀ x ∈ es, x.width = z) ∧ m = es.length ∧ news = flat es
  | .win k off n _ => m = n ∧ (n = 0 ∧ news = [] ∨ ∃ t cs, S.ob k = some (.box t cs) ∧ off + n * z ≤ cs.length ∧ news = (cs.drop off).take (n * z))
  | _ => False
theorem srcOk_sl {S : St} {z : Nat} {o : Own} {es : List D} (h : ∀ x ∈ es, x.width = z) : SrcOk S z (.sl o es) es.length (flat es) := ⟨h, rfl, rfl⟩
theorem srcOk_one {S : St} {z : Nat} {o : Own} {x : D} (h : x.width = z) : SrcOk S z (.sl o [x]) 1 (flat [x]) := ⟨fun y hy => by rw [List.mem_singleton] at hy; subst hy; exact h, rfl, rfl⟩
theorem srcOk_win {S : St} {z k off n c : Nat} {t : TypeId} {cs : List D} (hk : S.ob k = some (.box t cs)) (h : off + n * z ≤ cs.length) : SrcOk S z (.win k off n c) n ((cs.drop off).take (n * z)) := ⟨rfl, .inr ⟨t, cs, hk, h, rfl⟩⟩
structure SrcAt (w : World) (z : Nat) (v : Value) (m : Nat) (us : List Value) : Prop where
  sl : ∃ A c, v = .slice A m c ∧ m ≤ 140737488355328 ∧ ((A = none ∧ m = 0) ∨ ∃ a, A = some a ∧ ∀ (j : Nat) u, us[j]? = some u → w.cell? (a.add j) = some u)
  len : us.length = m * z
  one : ∀ u ∈ us, u.oneCell' = true
section
variable {P : Program} {base : Nat} {S : St} {η : Names} {w : World}
theorem take_mul {α : Type} {l : List α} {q m z : Nat} (h : l.length = m * z) (hq : q ≤ m) : (l.take (q * z)).length = q * z := by
  rw [List.length_take, h]
  exact Nat.min_eq_left (Nat.mul_le_mul_right _ hq)
theorem SrcOk.length {z : Nat} {d : D} {m : Nat} {news : List D} (h : SrcOk S z d m news) : news.length = m * z := by
  cases d with
  | sl o es => obtain ⟨h1, rfl, rfl⟩ := h; exact dflat_length h1
  | win k off n c =>
    obtain ⟨rfl, ⟨h1, rfl⟩ | ⟨t, cs, _, h2, rfl⟩⟩ := h
    · rw [h1]; simp
    · rw [List.length_take, List.length_drop]; omega
  | _ => exact h.elim
theorem srcOk_at (hM : Mem P base S η w) {z : Nat} {d : D} {m : Nat} {news : List D} {v : Value} (hs : SrcOk S z d m news) (hr : Rep P w η (Fix P S η) d v) :
    ∃ us, SrcAt w z v m us ∧ RepL P w η (Fix P S η) news us := by
  cases d with
  | sl o es =>
    obtain ⟨h1, rfl, rfl⟩ := hs
    simp only [Rep] at hr
    obtain ⟨A, c, rfl, h2, h3, h4, h5⟩ := hr
    rcases Nat.eq_zero_or_pos es.length with h0 | h0
    · have : es = [] := List.eq_nil_of_length_eq_zero h0
      subst this
      refine ⟨[], ⟨⟨A, c, rfl, by simp, ?_⟩, by simp, fun u hu => by cases hu⟩, by simp [flat, RepL]⟩
      cases A with
      | none => exact .inl ⟨rfl, rfl⟩
      | some a => exact .inr ⟨a, rfl, fun j u hu => by simp at hu⟩
    · obtain ⟨b, o, z', rfl, hz', hr⟩ := h5 h0
      obtain ⟨k1, k2⟩ := RepE.flat hr
      obtain ⟨vs, g1, g2, g3, g4⟩ := k2.range
      exact ⟨vs, ⟨⟨_, c, rfl, h3, .inr ⟨_, rfl, fun j u hu => by rw [Addr.add_mid]; exact g2 j u hu⟩⟩, by rw [g1, dflat_length h1], g4⟩, g3⟩
  | win k off n c =>
    obtain ⟨rfl, h⟩ := hs
    obtain ⟨A, rfl, h2, h3, h4⟩ := hr.win_slice
    rcases h with ⟨rfl, rfl⟩ | ⟨t, cs, h5, h6, rfl⟩
    · refine ⟨[], ⟨⟨A, c, rfl, by simp, ?_⟩, by simp, fun u hu => by cases hu⟩, by simp [RepL]⟩
      cases A with
      | none => exact .inl ⟨rfl, rfl⟩
      | some a => exact .inr ⟨a, rfl, fun j u hu => by simp at hu⟩
    · obtain ⟨b, hb⟩ := hM.live k t cs h5
      rcases h4 with ⟨b', h4, rfl⟩ | ⟨h4, _⟩
      rotate_left
      · rw [hb] at h4; cases h4
      have : b' = b := by rw [hb] at h4; injection h4 with h4; injection h4 with h4; exact h4.symm
      subst this
      obtain ⟨vs, g1, g2, g3⟩ := hM.box k t cs b' h5 hb
      have hl := g2.length
      refine ⟨(vs.drop off).take (m * z), ⟨⟨_, c, rfl, h3, .inr ⟨_, rfl, fun j u hu => ?_⟩⟩, by rw [List.length_take, List.length_drop]; omega, fun u hu => g3 u (List.mem_of_mem_drop (List.mem_of_mem_take hu))⟩, (g2.drop off).take _⟩
      rw [Addr.add_mid]
      have : w.cell? ⟨b', off + j, none⟩ = vs.toArray[off + j]? := by simp [World.cell?, g1]
      rw [this]
      rw [List.getElem?_take] at hu
      split at hu
      · rw [List.getElem?_drop] at hu
        simpa using hu
      · cases hu
  | _ => exact hs.elim
theorem SrcAt.src {z : Nat} {v : Value} {m : Nat} {us : List Value} {tx : TypeId} (h : SrcAt w z v m us) (ht : (elT P tx).isSome = true) : Src P z tx v m us w := by
  obtain ⟨e', he'⟩ := Option.isSome_iff_exists.1 ht
  have hk := elT_spec he'
  obtain ⟨⟨A, c, rfl, _, ⟨rfl, rfl⟩ | ⟨a, rfl, ha⟩⟩, h2, h3⟩ := h
  · have : us = [] := List.eq_nil_of_length_eq_zero (by rw [h2]; simp)
    subst this
    exact Src.ofNil w hk c
  · exact Src.ofSlice w hk a m c us h2 ha h3
theorem SrcAt.first {z : Nat} {v : Value} {m : Nat} {us : List Value} (h : SrcAt w z v m us) {q : Nat} (hq : q ≤ m) : (Builtin.firstCells z q v).run P w = .ok (us.take (q * z)).toArray w := by
  obtain ⟨⟨A, c, rfl, _, ⟨rfl, rfl⟩ | ⟨a, rfl, ha⟩⟩, h2, h3⟩ := h
  · have : us = [] := List.eq_nil_of_length_eq_zero (by rw [h2]; simp)
    subst this
    simp [run_firstCells_none]
  · refine run_firstCells_some w z q a m c _ (take_mul h2 hq) fun j u hu => ha j u ?_
    rw [List.getElem?_take] at hu
    split at hu
    · exact hu
    · cases hu
theorem SrcAt.lenOf {z : Nat} {v : Value} {m : Nat} {us : List Value} (h : SrcAt w z v m us) (w' : World) : (Builtin.lenOf v).run P w' = .ok m w' := by
  obtain ⟨⟨A, c, rfl, _⟩, _⟩ := h
  rfl
/-- A window over a live variable has its block. -/
theorem win_live (hM : Mem P base S η w) {k off n c : Nat} {t : TypeId} {cs : List D} {v : Value} (hk : S.ob k = some (.box t cs)) (hr : Rep P w η (Fix P S η) (.win k off n c) v) :
    ∃ b vs, v = .slice (some ⟨b, off, none⟩) n c ∧ η k = some (some b) ∧ w.heap[b]? = some (.cells vs.toArray t (0, 0)) ∧ RepL P w η (Fix P S η) cs vs ∧ (∀ x ∈ vs, x.oneCell' = true) ∧ n ≤ c ∧ n ≤ 140737488355328 := by
  obtain ⟨A, rfl, h2, h3, h4⟩ := hr.win_slice
  obtain ⟨b, hb⟩ := hM.live k t cs hk
  rcases h4 with ⟨b', h4, rfl⟩ | ⟨h4, _⟩
  · have : b' = b := by rw [hb] at h4; injection h4 with h4; injection h4 with h4; exact h4.symm
    subst this
    obtain ⟨vs, g1, g2, g3⟩ := hM.box k t cs b' hk hb
    exact ⟨b', vs, rfl, h4, g1, g2, g3, h2, h3⟩
  · rw [hb] at h4; cases h4
theorem splice_len {cs ds : List D} {off : Nat} (h : off + ds.length ≤ cs.length) : (splice cs off ds).length = cs.length := by
  simp only [splice, List.length_append, List.length_take, List.length_drop]
  omega
theorem one_splice {vs us : List Value} {off : Nat} (h : ∀ x ∈ vs, x.oneCell' = true) (k : ∀ x ∈ us, x.oneCell' = true) : ∀ x ∈ vs.take off ++ us ++ vs.drop (off + us.length), x.oneCell' = true := fun u hu => by
  rcases List.mem_append.1 hu with hu | hu
  · rcases List.mem_append.1 hu with hu | hu
    · exact h u (List.mem_of_mem_take hu)
    · exact k u hu
  · exact h u (List.mem_of_mem_drop hu)
/-- Elements are copied into a variable. -/
theorem dcopy_win {t tx ty e : TypeId} (he : elT P t = some e) (hi : (P.info? e).isSome = true) {k off n c m : Nat} {bt : TypeId} {cs news : List D} {y : D} {K : D → St → Prop} (hk : S.ob k = some (.box bt cs)) (hs : SrcOk S (szOf P e) y m news) (hfit : off + Nat.min m n * szOf P e ≤ cs.length)
    {cs' : List D} (hcs : splice cs off (news.take (Nat.min m n * szOf P e)) = cs') (h : K (.v (.int .i64 (Nat.min m n : Nat))) (S.set k (.box bt cs'))) : dcopy P #[t, tx] ty (.win k off n c) y S K := by
  subst hcs
  intro base η w vs hM hr
  simp only [RepL] at hr
  obtain ⟨x1, _, rfl, r1, x2, _, rfl, r2, rfl⟩ := hr
  obtain ⟨us, s1, s2⟩ := srcOk_at hM hs r2
  obtain ⟨b, bs, rfl, hb, g1, g2, g3, g4, g5⟩ := win_live hM hk r1
  obtain ⟨i, hi⟩ := Option.isSome_iff_exists.1 hi
  have hsz : szOf P e = i.size := by simp [szOf, hi]
  have hu := elT_spec he
  have hl := g2.length
  have hul := take_mul s1.len (Nat.min_le_left m n)
  have hf := s1.first (P := P) (Nat.min_le_left m n)
  have h1 : ∀ u ∈ us.take (Nat.min m n * szOf P e), u.oneCell' = true := fun u hu => s1.one u (List.mem_of_mem_take hu)
  have hst := run_storeCells_at P b off bt (us.take (Nat.min m n * szOf P e)) 0 bs.toArray w g1 (by rw [Nat.add_zero, hul, List.size_toArray, hl]; exact hfit) h1
  simp only [Nat.add_zero] at hst
  have hnl := take_mul hs.length (Nat.min_le_left m n)
  have G := goes_set hM hk hb (splice_len (by rw [hnl]; exact hfit)) (splice_rep g2 (s2.take (Nat.min m n * szOf P e))) (one_splice g3 h1)
  refine ⟨_, _, η, .int .i64 (Nat.min m n : Nat), _, ?_, h, by simp only [Rep], G⟩
  rw [hsz] at hf hst ⊢
  simp [Builtin.copy_, run_underlying hu, s1.lenOf, sizeOf, typeInfo, hi, hf, hst, goInt]
theorem run_append_room_at (w : World) (t tx ty e : TypeId) (i : TypeInfo) (ht : P.underlying t = some (.slice e)) (hi : P.info? e = some i) (b off sLen sCap : Nat) (bt : TypeId) (x : Value) (n : Nat) (news : List Value) (hs : Src P i.size tx x n news w)
    (cur : Array Value) (hg : w.heap[b]? = some (.cells cur bt (0, 0))) (hroom : sLen + n ≤ sCap) (hfit : off + sLen * i.size + news.length ≤ cur.size) :
    (Builtin.append_ #[t, tx] ty #[.slice (some ⟨b, off, none⟩) sLen sCap, x]).run P w = .ok (.slice (some ⟨b, off, none⟩) (sLen + n) sCap) (w.setRow b (cur.toList.take (off + sLen * i.size) ++ news ++ cur.toList.drop (off + sLen * i.size + news.length)).toArray) := by
  have hst := run_storeCells_at P b (off + sLen * i.size) bt news 0 cur w hg (by simpa using hfit) hs.one
  simp only [Nat.add_zero] at hst
  rcases hs.kind with ⟨e', hk⟩ | hk <;> simp [Builtin.append_, run_underlying ht, run_underlying hk, sizeOf, typeInfo, hi, hs.len, hroom, hs.cells, Addr.add_lit, hst]
def dappW (P : Program) (t tx ty : TypeId) (x y : D) (S : St) (K : D → St → Prop) : Prop := DRun P (fun vs => Builtin.append_ #[t, tx] ty vs.toArray) [x, y] S K
theorem dapp_atw {t tx ty : TypeId} {k off n c : Nat} {y : D} {K : D → St → Prop} : dapp P S t tx ty (.win k off n c) y K = dappW P t tx ty (.win k off n c) y S K := rfl
attribute [go_sem] dapp_atw
/-- Appended to nothing. -/
theorem dapp_nil {t tx ty e : TypeId} {own o2 : Own} {es es2 : List D} {K : D → St → Prop} (he : elT P t = some e) (h : dappW P t tx ty (.sl own es) (.sl o2 es2) S K) : dapp P S t tx ty (.sl own es) (.sl o2 es2) K := dapp_step he h
/-- There is room. -/
theorem dappend_in {t tx ty e : TypeId} (he : elT P t = some e) (hx : (elT P tx).isSome = true) (hi : (P.info? e).isSome = true) {k off n c m : Nat} {bt : TypeId} {cs news : List D} {y : D} {K : D → St → Prop} (hk : S.ob k = some (.box bt cs)) (hs : SrcOk S (szOf P e) y m news)
    (hroom : n + m ≤ c) (hb : n + m ≤ 140737488355328) (hfit : off + (n + m) * szOf P e ≤ cs.length) {cs' : List D} (hcs : splice cs (off + n * szOf P e) news = cs') (h : K (.win k off (n + m) c) (S.set k (.box bt cs'))) : dappW P t tx ty (.win k off n c) y S K := by
  subst hcs
  intro base η w vs hM hr
  simp only [RepL] at hr
  obtain ⟨x1, _, rfl, r1, x2, _, rfl, r2, rfl⟩ := hr
  obtain ⟨us, s1, s2⟩ := srcOk_at hM hs r2
  obtain ⟨b, bs, rfl, hbb, g1, g2, g3, g4, g5⟩ := win_live hM hk r1
  obtain ⟨i, hi⟩ := Option.isSome_iff_exists.1 hi
  have hsz : szOf P e = i.size := by simp [szOf, hi]
  have hu := elT_spec he
  have hl := g2.length
  have hf : off + n * szOf P e + us.length ≤ bs.toArray.size := by
    rw [s1.len, List.size_toArray, hl, Nat.add_assoc, ← Nat.add_mul]; exact hfit
  have hrun := run_append_room_at (P := P) w t tx ty e i hu hi b off n c bt x2 m us (hsz ▸ s1.src hx) bs.toArray g1 hroom (hsz ▸ hf)
  have G := goes_set hM hk hbb (splice_len (by rw [hs.length, Nat.add_assoc, ← Nat.add_mul]; exact hfit)) (splice_rep g2 s2) (one_splice (off := off + n * szOf P e) g3 s1.one)
  refine ⟨_, _, η, _, _, hrun, h, by simp only [Rep]; exact .inl ⟨b, hbb, rfl, hroom, hb⟩, ?_⟩
  rw [← hsz]
  exact G
/-- There is none: a new variable. -/
theorem dappend_new {t tx ty e : TypeId} (he : elT P t = some e) (hx : (elT P tx).isSome = true) (hz : zeroT P e = true) (hz2 : zeroOk P e = true) {n c m : Nat} {x : D} {olds news : List D} {y : D} {K : D → St → Prop} (ho : SrcOk S (szOf P e) x n olds) (hxc : ∀ k' off' n' c', x = .win k' off' n' c' → c' = c) (hxs : ∀ o es, x = .sl o es → o = .full ∧ c = es.length) (hs : SrcOk S (szOf P e) y m news)
    (hgrow : c < n + m) (hb : n + m ≤ 140737488355328) (hby : (n + m) * bytesOf P e ≤ 140737488355328)
    (h : ∀ (c' : Nat) (zs : List D), n + m ≤ c' → (olds ++ news ++ zs).length = c' * szOf P e → K (.win S.next 0 (n + m) c') (S.add (.box e (olds ++ news ++ zs)))) : dappW P t tx ty x y S K := by
  intro base η w vs hM hr
  simp only [RepL] at hr
  obtain ⟨x1, _, rfl, r1, x2, _, rfl, r2, rfl⟩ := hr
  obtain ⟨us, s1, s2⟩ := srcOk_at hM hs r2
  obtain ⟨os, o1, o2⟩ := srcOk_at hM ho r1
  obtain ⟨i, z, hi, hzr, hzs, hpos, hsz, hbz⟩ := zeroT_spec hz
  obtain ⟨z2, i2, hi2, hz2r, _, hz1, _⟩ := zeroOk_spec hz2
  rw [hi] at hi2
  injection hi2 with hi2
  subst hi2
  rw [hzr] at hz2r
  injection hz2r with hz2r
  subst hz2r
  have hu := elT_spec he
  have hel : (elT P t).isSome = true := by rw [he]; rfl
  obtain ⟨A, cc, e1, _, _⟩ := o1.sl
  have hcc : cc = c := by
    cases x with
    | win k' off' n' c' =>
      obtain ⟨A', e2, _⟩ := r1.win_slice
      rw [e1] at e2
      injection e2 with _ _ e2
      rw [e2]
      exact hxc _ _ _ _ rfl
    | sl o es =>
      obtain ⟨rfl, rfl⟩ := hxs _ _ rfl
      simp only [Rep, OwnAt] at r1
      obtain ⟨A', c', e2, _, _, rfl, _⟩ := r1
      rw [e1] at e2
      injection e2 with _ _ e2
    | _ => exact ho.elim
  subst hcc
  subst e1
  have hso := o1.src hel
  have hsn := s1.src hx
  rw [hsz] at hso hsn
  have hcold := hso.cellsD
  have hrun := run_append_grow_src (P := P) w t tx ty e i z hu hi hzr A n cc os hcold x2 m us hsn hgrow (by omega) (growslice_fits hgrow (by rw [← hbz]; exact hby))
  have G1 := goes_drew hM
  have hge := grownCap_ge w (n + m) cc e
  have G3 := G1.trans (goes_name G1.mem (.box e (olds ++ news ++ (Builtin.zeroCells z.cells (grownCap w (n + m) cc e - (n + m))).toList.map ofV)) ((os ++ us).toArray ++ Builtin.zeroCells z.cells (grownCap w (n + m) cc e - (n + m))) e
    (.inl ⟨_, os ++ us ++ (Builtin.zeroCells z.cells (grownCap w (n + m) cc e - (n + m))).toList, rfl, by apply Array.ext'; simp, RepL.append (RepL.append (G1.repL o2) (G1.repL s2)) (zeroD_rep _), fun u hu' => (List.mem_append.1 hu').elim (fun hh => (List.mem_append.1 hh).elim (o1.one u) (s1.one u)) fun hh => hz1 u (zeroCells_mem hh)⟩))
  refine ⟨_, _, _, _, _, hrun, h _ _ hge ?_, ?_, G3⟩
  · have e1 := size_zeroCells z.cells (grownCap w (n + m) cc e - (n + m))
    rw [← Array.length_toList] at e1
    rw [List.length_append, List.length_append, List.length_map, ho.length, hs.length, e1, hzs, hsz, ← Nat.add_mul, ← Nat.add_mul]
    congr 1
    omega
  · simp only [Rep]
    exact .inl ⟨w.heap.size, by simp only [Names.add, ↓reduceIte]; rfl, rfl, hge, hb⟩
/-! ### Owned slices -/
theorem DRun.thaw {run : List Value → Sem Value} {args : List D} {K : D → St → Prop} (h : DRun P run args S fun d S' => ∃ S1 d1, Thaw P S' d S1 d1 ∧ K d1 S1) : DRun P run args S K := fun base η w vs hM hr => by
  obtain ⟨d, S', η', v, w', h1, ⟨S1, d1, h2, h3⟩, h4, h5⟩ := h base η w vs hM hr
  obtain ⟨η2, k1, k2⟩ := h2 base η' w' v h5.mem h4
  exact ⟨d1, S1, η2, v, w', h1, h3, k2, h5.trans k1⟩
theorem DCalls.thaw {g : FuncId} {args : List D} {K : D → St → Prop} (h : DCalls P g args S fun d S' => ∃ S1 d1, Thaw P S' d S1 d1 ∧ K d1 S1) : DCalls P g args S K := fun base η w vs hM hr => by
  rcases h base η w vs hM hr with ⟨h1, h2⟩ | ⟨d, S', η', v, w', h1, ⟨S1, d1, h2, h3⟩, h4, h5⟩
  · refine .inl ⟨h1, h2.mono fun e w' ⟨d, S', η', v, ⟨S1, d1, h2, h3⟩, he, h4, h5⟩ => ?_⟩
    obtain ⟨η2, k1, k2⟩ := h2 base η' w' v h5.mem h4
    exact ⟨d1, S1, η2, v, h3, he, k2, h5.trans k1⟩
  · obtain ⟨η2, k1, k2⟩ := h2 base η' w' v h5.mem h4
    exact .inr ⟨d1, S1, η2, v, w', h1, h3, k2, h5.trans k1⟩
/-- A name is changed for a new one. -/
theorem goes_rename (h : Mem P base S η w) {k : Nat} {o : Ob} {b : Option Nat} (hk : S.ob k = some o) (hb : η k = some b) : Goes P base S η w ((S.drop k).add o) (η.add S.next b) w := by
  have hkn : k < S.next := h.lt (by rw [hb]; rfl)
  have ob_new : ((S.drop k).add o).ob S.next = some o := by simp [St.add, St.drop]
  have ob_old : ∀ j, j ≠ S.next → ((S.drop k).add o).ob j = if j = k then none else S.ob j := fun j hj => by simp [St.add, St.drop, hj]
  have ob_some : ∀ j o', ((S.drop k).add o).ob j = some o' → (j = S.next ∧ o' = o) ∨ (j ≠ S.next ∧ j ≠ k ∧ S.ob j = some o') := fun j o' hj => by
    by_cases e : j = S.next
    · subst e; rw [ob_new] at hj; injection hj with hj; exact .inl ⟨rfl, hj.symm⟩
    · rw [ob_old j e] at hj
      by_cases e2 : j = k
      · rw [if_pos e2] at hj; cases hj
      · rw [if_neg e2] at hj; exact .inr ⟨e, e2, hj⟩
  have eta_new : (η.add S.next b) S.next = some b := by simp [Names.add]
  have eta_old : ∀ j, j ≠ S.next → (η.add S.next b) j = η j := fun j hj => by simp [Names.add, hj]
  have K : Keep (fun _ => True) w η (Fix P S η) w (η.add S.next b) (Fix P ((S.drop k).add o) (η.add S.next b)) := by
    refine ⟨Nat.le_refl _, fun q i _ hx => ⟨fun j o' hj ho => ?_, rfl⟩, fun j c _ hj => ?_, fun q cur e hq => ⟨cur, hq, rfl⟩⟩
    · rcases ob_some j o' ho with ⟨rfl, rfl⟩ | ⟨e1, e2, e3⟩
      · rw [eta_new] at hj
        injection hj with hj
        exact hx k o' (by rw [hb, hj]) hk
      · rw [eta_old j e1] at hj
        exact hx j o' hj e3
    · have : j ≠ S.next := fun e => by subst e; rw [h.dead _ (Nat.le_refl _)] at hj; cases hj
      rw [eta_old j this]; exact hj
  have src : ∀ j b', (η.add S.next b) j = some (some b') → (((S.drop k).add o).ob j).isSome = true → ∃ j', η j' = some (some b') ∧ (S.ob j').isSome = true ∧ ((j = S.next ∧ j' = k) ∨ (j ≠ S.next ∧ j ≠ k ∧ j' = j)) := fun j b' hj ho => by
    obtain ⟨o', ho⟩ := Option.isSome_iff_exists.1 ho
    rcases ob_some j o' ho with ⟨rfl, rfl⟩ | ⟨e1, e2, e3⟩
    · rw [eta_new] at hj
      injection hj with hj
      exact ⟨k, by rw [hb, hj], by rw [hk]; rfl, .inl ⟨rfl, rfl⟩⟩
    · rw [eta_old j e1] at hj
      exact ⟨j, hj, by rw [e3]; rfl, .inr ⟨e1, e2, rfl⟩⟩
  refine ⟨⟨h.base_, fun j hj => ?_, fun j hj => ?_, fun j t cs hj => ?_, fun j j' b' h1 h2 h3 h4 => ?_, fun j b' hj => ?_, fun j t cs b' h1 h2 => ?_, fun j e n b' h1 h2 => ?_, h.glob⟩, K, Below.refl _ _⟩
  · have hj' : S.next + 1 ≤ j := hj
    rw [eta_old j (by omega)]; exact h.dead j (by omega)
  · have hj' : S.next + 1 ≤ j := hj
    rw [ob_old j (by omega), if_neg (by omega)]; exact h.fresh j (by omega)
  · rcases ob_some j _ hj with ⟨rfl, rfl⟩ | ⟨e1, e2, e3⟩
    · obtain ⟨b', hb'⟩ := h.live k t cs hk
      rw [hb] at hb'
      injection hb' with hb'
      exact ⟨b', by rw [eta_new, hb']⟩
    · obtain ⟨b', hb'⟩ := h.live j t cs e3
      exact ⟨b', by rw [eta_old j e1]; exact hb'⟩
  · obtain ⟨i, a1, a2, a3⟩ := src j b' h1 h3
    obtain ⟨i', c1, c2, c3⟩ := src j' b' h2 h4
    have := h.inj i i' b' a1 c1 a2 c2
    rcases a3 with ⟨rfl, rfl⟩ | ⟨a3, a4, rfl⟩ <;> rcases c3 with ⟨rfl, rfl⟩ | ⟨c3, c4, rfl⟩
    · rfl
    · exact absurd this.symm c4
    · exact absurd this a4
    · exact this
  · by_cases e : j = S.next
    · subst e
      rw [eta_new] at hj
      injection hj with hj
      exact h.in_ k b' (by rw [hb, hj])
    · rw [eta_old j e] at hj; exact h.in_ j b' hj
  · rcases ob_some j _ h1 with ⟨rfl, rfl⟩ | ⟨e1, e2, e3⟩
    · rw [eta_new] at h2
      injection h2 with h2
      obtain ⟨vs, k1, k2, k3⟩ := h.box k t cs b' hk (by rw [hb, h2])
      exact ⟨vs, k1, RepL.keep K (allL_true _) k2, k3⟩
    · rw [eta_old j e1] at h2
      obtain ⟨vs, k1, k2, k3⟩ := h.box j t cs b' e3 h2
      exact ⟨vs, k1, RepL.keep K (allL_true _) k2, k3⟩
  · rcases ob_some j _ h1 with ⟨rfl, rfl⟩ | ⟨e1, e2, e3⟩
    · rw [eta_new] at h2
      injection h2 with h2
      exact h.row k e n b' hk (by rw [hb, h2])
    · rw [eta_old j e1] at h2
      exact h.row j e n b' e3 h2
theorem thaw_rename {k off n c : Nat} {o : Ob} (hk : S.ob k = some o) : Thaw P S (.win k off n c) ((S.drop k).add o) (.win S.next off n c) := fun base η w v hM hr => by
  simp only [Rep] at hr
  rcases hr with ⟨b, h1, h2⟩ | ⟨h1, h2⟩
  · exact ⟨_, goes_rename hM hk h1, by simp only [Rep]; exact .inl ⟨b, by simp [Names.add], h2⟩⟩
  · exact ⟨_, goes_rename hM hk h1, by simp only [Rep]; exact .inr ⟨by simp [Names.add], h2⟩⟩
theorem thaw_drop (k : Nat) (d : D) : Thaw P S d (S.drop k) d := fun base η w v hM hr => ⟨η, goes_drop hM k, (goes_drop hM k).rep hr⟩
/-- Nothing, as an owned slice. -/
theorem thaw_nil (e : TypeId) : Thaw P S (.sl .full []) (S.add (.row e 0)) (.win S.next 0 0 0) := fun base η w v hM hr => by
  simp only [Rep, OwnAt] at hr
  obtain ⟨A, c, rfl, _, _, rfl, _⟩ := hr
  refine ⟨_, goes_bare hM e 0, ?_⟩
  unfold Rep
  exact .inr ⟨by simp [Names.add], rfl, rfl, A, rfl⟩
theorem St.set_drop (S : St) (k : Nat) (o : Ob) : (S.set k o).drop k = S.drop k := by
  unfold St.set St.drop
  congr 1
  funext j
  by_cases h : j = k <;> simp [h]
theorem St.add_set (S : St) (o o' : Ob) : (S.add o).set S.next o' = S.add o' := by
  unfold St.set St.add
  congr 1
  funext j
  by_cases h : j = S.next <;> simp [h]
theorem St.set_set (S : St) (k : Nat) (o o' : Ob) : (S.set k o).set k o' = S.set k o' := by
  unfold St.set
  congr 1
  funext j
  by_cases h : j = k <;> simp [h]
theorem St.add_drop (S : St) {k : Nat} (o : Ob) (h : k < S.next) : (S.add o).drop k = (S.drop k).add o := by
  unfold St.add St.drop
  congr 1
  funext j
  by_cases h1 : j = k
  · subst h1
    simp
    omega
  · simp [h1]
theorem flat_append (l m : List D) : flat (l ++ m) = flat l ++ flat m := by simp [flat]
theorem ownOb_len {es zs : List D} {c z : Nat} (hw : ∀ d ∈ es, d.width = z) (hz : 0 < z) (h : (flat es ++ zs).length = c * z) : es.length ≤ c := by
  rw [List.length_append, dflat_length hw] at h
  rcases Nat.lt_or_ge c es.length with h' | h'
  · have : (c + 1) * z ≤ es.length * z := Nat.mul_le_mul_right _ h'
    rw [Nat.add_mul] at this
    omega
  · exact h'
theorem flat_take {es : List D} {z : Nat} (hw : ∀ d ∈ es, d.width = z) (q : Nat) : (flat es).take (q * z) = flat (es.take q) := by
  induction es generalizing q with
  | nil => simp [flat]
  | cons d es ih =>
    cases q with
    | zero => simp [flat]
    | succ q =>
      have h1 : d.cells.length = z := hw d (by simp)
      have h2 := ih (fun x hx => hw x (by simp [hx])) q
      have e1 : flat (d :: es) = d.cells ++ flat es := by simp [flat]
      have e2 : flat (d :: es.take q) = d.cells ++ flat (es.take q) := by simp [flat]
      rw [e1, List.take_succ_cons, e2, ← h2, List.take_append, h1, List.take_of_length_le (by rw [h1, Nat.add_mul]; omega)]
      congr 2
      rw [Nat.add_mul]; omega
theorem flat_drop {es : List D} {z : Nat} (hw : ∀ d ∈ es, d.width = z) (q : Nat) : (flat es).drop (q * z) = flat (es.drop q) := by
  induction es generalizing q with
  | nil => simp [flat]
  | cons d es ih =>
    cases q with
    | zero => simp
    | succ q =>
      have h1 : d.cells.length = z := hw d (by simp)
      have h2 := ih (fun x hx => hw x (by simp [hx])) q
      have e1 : flat (d :: es) = d.cells ++ flat es := by simp [flat]
      rw [e1, List.drop_succ_cons, ← h2, List.drop_append, h1, List.drop_of_length_le (by rw [h1, Nat.add_mul]; omega), List.nil_append]
      congr 1
      rw [Nat.add_mul]; omega
/-- A part of an owned slice as a source. -/
theorem srcOk_own {k c : Nat} {e : TypeId} {es zs : List D} {z : Nat} (hk : S.ob k = some (ownOb e es zs c)) (hc : es.length ≤ c) (hw : ∀ d ∈ es, d.width = z) {l n : Nat} (hq : l + n ≤ es.length) {c' : Nat} : SrcOk S z (.win k (l * z) n c') n (flat ((es.drop l).take n)) := by
  refine ⟨rfl, ?_⟩
  rcases Nat.eq_zero_or_pos c with rfl | h
  · have : es = [] := List.eq_nil_of_length_eq_zero (by omega)
    subst this
    have : n = 0 := by simp at hq; omega
    subst this
    exact .inl ⟨rfl, by simp [flat]⟩
  · rw [ownOb_box h] at hk
    have hf := dflat_length hw
    have hle : (l + n) * z ≤ es.length * z := Nat.mul_le_mul_right _ hq
    rw [Nat.add_mul] at hle
    refine .inr ⟨e, _, hk, ?_, ?_⟩
    · rw [List.length_append, hf]; omega
    · rw [List.drop_append_of_le_length (by rw [hf]; omega), List.take_append_of_le_length (by rw [List.length_drop, hf]; omega), flat_drop hw, flat_take fun d hd => hw d (List.mem_of_mem_drop hd)]
theorem srcOk_own0 {k c : Nat} {e : TypeId} {es zs : List D} {z : Nat} (hk : S.ob k = some (ownOb e es zs c)) (hc : es.length ≤ c) (hw : ∀ d ∈ es, d.width = z) {q : Nat} (hq : q ≤ es.length) {c' : Nat} : SrcOk S z (.win k 0 q c') q (flat (es.take q)) := by
  have := srcOk_own hk hc hw (l := 0) (n := q) (by omega) (c' := c')
  rwa [Nat.zero_mul, List.drop_zero] at this
theorem srcOk_ownA {k c : Nat} {e : TypeId} {es zs : List D} {z : Nat} (hk : S.ob k = some (ownOb e es zs c)) (hc : es.length ≤ c) (hw : ∀ d ∈ es, d.width = z) {c' : Nat} : SrcOk S z (.win k 0 es.length c') es.length (flat es) := by
  have := srcOk_own0 hk hc hw (Nat.le_refl _) (c' := c')
  rwa [List.take_of_length_le (Nat.le_refl _)] at this
theorem zeroT_pos {e : TypeId} (h : zeroT P e = true) : 0 < szOf P e ∧ (P.info? e).isSome = true := by
  obtain ⟨i, z, hi, _, _, hp, hs, _⟩ := zeroT_spec h
  exact ⟨by omega, by rw [hi]; rfl⟩
/-- Elements are appended to an owned slice. -/
theorem dappend_own {t tx ty e : TypeId} (he : elT P t = some e) (hx : (elT P tx).isSome = true) (hz : zeroT P e = true) (hz2 : zeroOk P e = true) {k c m : Nat} {es es2 zs : List D} {y : D} {K : D → St → Prop} (hk : S.ob k = some (ownOb e es zs c)) (hl : (flat es ++ zs).length = c * szOf P e) (hw1 : ∀ d ∈ es, d.width = szOf P e) (hs : SrcOk S (szOf P e) y m (flat es2)) (hm : m = es2.length)
    (hb : es.length + es2.length ≤ 140737488355328) (hby : (es.length + es2.length) * bytesOf P e ≤ 140737488355328) (hkn : k < S.next)
    (h : ∀ (c' : Nat) (zs' : List D), es.length + es2.length ≤ c' → (flat (es ++ es2) ++ zs').length = c' * szOf P e → K (.win S.next 0 (es.length + es2.length) c') ((S.drop k).add (ownOb e (es ++ es2) zs' c'))) : dappW P t tx ty (.win k 0 es.length c) y S K := by
  subst hm
  obtain ⟨hzp, hi⟩ := zeroT_pos hz
  have hc := ownOb_len hw1 hzp hl
  refine DRun.thaw ?_
  by_cases hroom : es.length + es2.length ≤ c
  · rcases Nat.eq_zero_or_pos c with rfl | hpos
    · have e1 : es = [] := List.eq_nil_of_length_eq_zero (by omega)
      have e2 : es2 = [] := List.eq_nil_of_length_eq_zero (by omega)
      subst e1 e2
      rw [ownOb_nil] at hk
      intro base η w vs hM hr
      simp only [RepL] at hr
      obtain ⟨x1, _, rfl, r1, x2, _, rfl, r2, rfl⟩ := hr
      obtain ⟨us, s1, s2⟩ := srcOk_at hM hs r2
      have hus : us = [] := List.eq_nil_of_length_eq_zero (by rw [s1.len]; simp)
      subst hus
      obtain ⟨i, hi⟩ := Option.isSome_iff_exists.1 hi
      have hsz : szOf P e = i.size := by simp [szOf, hi]
      obtain ⟨A, rfl, _⟩ := r1.win_slice
      have hsrc := s1.src hx
      rw [hsz] at hsrc
      refine ⟨_, S, η, _, w, run_append_nothing w t tx ty e i (elT_spec he) hi A _ _ (Nat.le_refl _) x2 hsrc, ?_, r1, Goes.refl hM⟩
      exact ⟨_, _, thaw_rename hk, h 0 [] (Nat.le_refl _) (by simp [flat])⟩
    · have hk' := hk
      rw [ownOb_box hpos] at hk'
      have hfl := dflat_length hw1
      refine dappend_in he hx hi hk' hs hroom hb (by rw [Nat.zero_add, hl]; exact Nat.mul_le_mul_right _ hroom) rfl ?_
      refine ⟨_, _, thaw_rename (o := .box e (splice (flat es ++ zs) (0 + es.length * szOf P e) (flat es2))) (by simp [St.set]), ?_⟩
      have hsp : splice (flat es ++ zs) (0 + es.length * szOf P e) (flat es2) = flat (es ++ es2) ++ zs.drop (es2.length * szOf P e) := by
        rw [Nat.zero_add, ← hfl, flat_append]
        unfold splice
        rw [List.take_append_of_le_length (Nat.le_refl _), List.take_of_length_le (Nat.le_refl _), List.drop_append, hs.length]
        simp
      have h2 := h c (zs.drop (es2.length * szOf P e)) hroom (by
        rw [← hsp, splice_len, hl]
        rw [Nat.zero_add, hs.length, hl, ← Nat.add_mul]
        exact Nat.mul_le_mul_right _ hroom)
      rw [ownOb_box hpos, ← hsp] at h2
      rw [St.set_drop]
      exact h2
  · refine dappend_new he hx hz hz2 (srcOk_ownA hk hc hw1) (fun _ _ _ _ e => by injection e with _ _ _ e; exact e.symm) (fun _ _ e => by cases e) hs (by omega) hb hby fun c' zs hc' hl' => ?_
    refine ⟨_, _, thaw_drop k _, ?_⟩
    rw [St.add_drop S _ hkn]
    have := h c' zs hc' (by rw [flat_append]; exact hl')
    rw [ownOb_box (by omega), flat_append] at this
    exact this
/-- Nothing is appended to: a new owned slice. -/
theorem dappend_fresh {t tx ty e : TypeId} (he : elT P t = some e) (hx : (elT P tx).isSome = true) (hz : zeroT P e = true) (hz2 : zeroOk P e = true) {m : Nat} {es2 : List D} {y : D} {K : D → St → Prop} (hs : SrcOk S (szOf P e) y m (flat es2)) (hm : m = es2.length)
    (hb : es2.length ≤ 140737488355328) (hby : es2.length * bytesOf P e ≤ 140737488355328)
    (h : ∀ (c' : Nat) (zs' : List D), es2.length ≤ c' → (flat es2 ++ zs').length = c' * szOf P e → K (.win S.next 0 es2.length c') (S.add (ownOb e es2 zs' c'))) : dappW P t tx ty (.sl .full []) y S K := by
  subst hm
  obtain ⟨hzp, hi⟩ := zeroT_pos hz
  rcases Nat.eq_zero_or_pos es2.length with h0 | hpos
  · have e2 : es2 = [] := List.eq_nil_of_length_eq_zero h0
    subst e2
    refine DRun.thaw ?_
    intro base η w vs hM hr
    simp only [RepL] at hr
    obtain ⟨x1, _, rfl, r1, x2, _, rfl, r2, rfl⟩ := hr
    obtain ⟨us, s1, s2⟩ := srcOk_at hM hs r2
    have hus : us = [] := List.eq_nil_of_length_eq_zero (by rw [s1.len]; simp)
    subst hus
    obtain ⟨i, hi⟩ := Option.isSome_iff_exists.1 hi
    have hsz : szOf P e = i.size := by simp [szOf, hi]
    have hsrc := s1.src hx
    rw [hsz] at hsrc
    have r1' := r1
    simp only [Rep, OwnAt] at r1'
    obtain ⟨A, c, rfl, _, _, rfl, _⟩ := r1'
    refine ⟨_, S, η, _, w, run_append_nothing w t tx ty e i (elT_spec he) hi A _ _ (Nat.le_refl _) x2 hsrc, ?_, r1, Goes.refl hM⟩
    exact ⟨_, _, thaw_nil e, h 0 [] (Nat.le_refl _) (by simp [flat])⟩
  · refine dappend_new he hx hz hz2 (n := 0) (c := 0) (olds := []) ⟨(fun _ hx => by cases hx), rfl, rfl⟩ (fun _ _ _ _ e => by cases e) (fun _ _ e => by injection e with e1 e2; subst e1 e2; exact ⟨rfl, rfl⟩) hs (by omega) (by omega) (by rw [Nat.zero_add]; exact hby) fun c' zs hc' hl' => ?_
    simp only [List.nil_append, Nat.zero_add] at hc' hl' ⊢
    have := h c' zs hc' hl'
    rw [ownOb_box (by omega)] at this
    exact this
end
end Go.Proofs.Ytjjhjhjphhpeiaa

namespace Go.Proofs.Ytjjhjhjphhpeiaa
open Go.RowKit

section
variable {P : Program} {base : Nat} {S : St} {η : Names} {w : World}
theorem run_append_zeros (w : World) (t tx ty e : TypeId) (i : TypeInfo) (z : Value) (kk : IntKind) (ht : P.underlying t = some (.slice e)) (hi : P.info? e = some i) (hz : i.zero = some z) (hx : P.underlying tx = some (.int kk)) (base : Option Addr) (sLen sCap : Nat) (olds : List Value)
    (hold : (Builtin.firstCells i.size sLen (.slice base sLen sCap)).run P w.drew = .ok olds.toArray w.drew) (m : Nat) (k : IntKind)
    (hg : sCap < sLen + m) (h63 : ((sLen + m : Nat) : Int) ≤ 9223372036854775807) (hfit : Builtin.nextslicecap (sLen + m) sCap * i.bytes ≤ 281474976710656) (hm : m * i.bytes ≤ 281474976710656) (hm0 : m * i.size ≠ 0) :
    (Builtin.append_ #[t, tx] ty #[.slice base sLen sCap, .int k m]).run P w =
      .ok (.slice (some ⟨w.heap.size, 0, none⟩) (sLen + m) (grownCap w (sLen + m) sCap e))
        (w.drew.alloc (.cells (olds.toArray ++ Builtin.zeroCells z.cells m ++ Builtin.zeroCells z.cells (grownCap w (sLen + m) sCap e - (sLen + m))) e)) := by
  have hn : ¬ (sLen + m ≤ sCap) := by omega
  have h63' : ¬ (9223372036854775807 < ((sLen : Int) + (m : Int))) := by omega
  have h48' : ¬ (281474976710656 < Builtin.nextslicecap (sLen + m) sCap * i.bytes) := by omega
  have hw : IntKind.i64.wrap (m : Int) = m := (by rw [IntKind.wrap_i64]; omega)
  have h0 : ¬ ((m : Int) < 0) := by omega
  have h1 : ¬ (281474976710656 < (m : Int) * (i.bytes : Int)) := by
    have : (m : Int) * (i.bytes : Int) = ((m * i.bytes : Nat) : Int) := by simp
    omega
  simp [Builtin.append_, run_underlying ht, run_underlying hx, sizeOf, typeInfo, zeroValue, hi, hz, asInt, asIntOf, hw, h0, h1, hn, h63', h48', Question.forced, hold, newRow, grownCap]
  intro h
  exact absurd h hm0
/-- Zeros are appended, more than there is room for. -/
theorem dappend_zeros {t tx ty e : TypeId} {kk : IntKind} (he : elT P t = some e) (hx : P.underlying tx = some (.int kk)) (hz : zeroT P e = true) (hz2 : zeroOk P e = true) {n c m : Nat} {k off : Nat} {olds : List D} {ik : IntKind} {K : D → St → Prop} (ho : SrcOk S (szOf P e) (.win k off n c) n olds)
    (hgrow : c < n + m) (hnc : n ≤ c) (hb : n + m ≤ 140737488355328) (hby : (n + m) * bytesOf P e ≤ 140737488355328)
    (h : ∀ (c' : Nat) (zs : List D), n + m ≤ c' → (olds ++ zs).length = c' * szOf P e → K (.win S.next 0 (n + m) c') (S.add (.box e (olds ++ zs)))) : dappW P t tx ty (.win k off n c) (.v (.int ik m)) S K := by
  intro base η w vs hM hr
  simp only [RepL] at hr
  obtain ⟨x1, _, rfl, r1, x2, _, rfl, r2, rfl⟩ := hr
  simp only [Rep] at r2
  subst r2
  obtain ⟨os, o1, o2⟩ := srcOk_at hM ho r1
  obtain ⟨i, z, hi, hzr, hzs, hpos, hsz, hbz⟩ := zeroT_spec hz
  obtain ⟨z2, i2, hi2, hz2r, _, hz1, _⟩ := zeroOk_spec hz2
  rw [hi] at hi2
  injection hi2 with hi2
  subst hi2
  rw [hzr] at hz2r
  injection hz2r with hz2r
  subst hz2r
  have hu := elT_spec he
  obtain ⟨A, e1, _⟩ := r1.win_slice
  subst e1
  have hso := o1.src (tx := t) (by rw [he]; rfl)
  rw [hsz] at hso
  have hcold := hso.cellsD
  have hmb : m * i.bytes ≤ 281474976710656 := by
    have : m * i.bytes ≤ (n + m) * i.bytes := Nat.mul_le_mul_right _ (Nat.le_add_left _ _)
    rw [hbz] at hby
    omega
  have hrun := run_append_zeros (P := P) w t tx ty e i z kk hu hi hzr hx A n c os hcold m ik hgrow (by omega) (growslice_fits hgrow (by rw [← hbz]; exact hby)) hmb (by
    have : 1 * 1 ≤ m * i.size := Nat.mul_le_mul (by omega) (by omega)
    omega)
  have G1 := goes_drew hM
  have hge := grownCap_ge w (n + m) c e
  have G3 := G1.trans (goes_name G1.mem (.box e (olds ++ ((Builtin.zeroCells z.cells m).toList ++ (Builtin.zeroCells z.cells (grownCap w (n + m) c e - (n + m))).toList).map ofV)) (os.toArray ++ Builtin.zeroCells z.cells m ++ Builtin.zeroCells z.cells (grownCap w (n + m) c e - (n + m))) e
    (.inl ⟨_, os ++ ((Builtin.zeroCells z.cells m).toList ++ (Builtin.zeroCells z.cells (grownCap w (n + m) c e - (n + m))).toList), rfl, by apply Array.ext'; simp, RepL.append (G1.repL o2) (zeroD_rep _), fun u hu' => (List.mem_append.1 hu').elim (o1.one u) fun hh => (List.mem_append.1 hh).elim (fun hh => hz1 u (zeroCells_mem hh)) fun hh => hz1 u (zeroCells_mem hh)⟩))
  refine ⟨_, _, _, _, _, hrun, h _ _ hge ?_, ?_, G3⟩
  · have e1 := size_zeroCells z.cells (grownCap w (n + m) c e - (n + m))
    have e2 := size_zeroCells z.cells m
    rw [← Array.length_toList] at e1 e2
    rw [List.length_append, List.length_map, List.length_append, ho.length, e1, e2, hzs, hsz, ← Nat.add_mul, ← Nat.add_mul]
    congr 1
    omega
  · simp only [Rep]
    exact .inl ⟨w.heap.size, by simp only [Names.add, ↓reduceIte]; rfl, rfl, hge, hb⟩
/-- A slice is cleared. -/
theorem dclear_win {t ty e : TypeId} (he : elT P t = some e) (hz : zeroT P e = true) (hz2 : zeroOk P e = true) {k off n c : Nat} {bt : TypeId} {cs : List D} {K : D → St → Prop} (hk : S.ob k = some (.box bt cs)) (hfit : off + n * szOf P e ≤ cs.length)
    (h : ∀ zs : List D, zs.length = n * szOf P e → K (.tup []) (S.set k (.box bt (splice cs off zs)))) : dclear P #[t] ty (.win k off n c) S K := by
  intro base η w vs hM hr
  simp only [RepL] at hr
  obtain ⟨x1, _, rfl, r1, rfl⟩ := hr
  obtain ⟨b, bs, rfl, hb, g1, g2, g3, g4, g5⟩ := win_live hM hk r1
  obtain ⟨i, z, hi, hzr, hzs, hpos, hsz, hbz⟩ := zeroT_spec hz
  obtain ⟨z2, i2, hi2, hz2r, _, hz1, _⟩ := zeroOk_spec hz2
  rw [hi] at hi2
  injection hi2 with hi2
  subst hi2
  rw [hzr] at hz2r
  injection hz2r with hz2r
  subst hz2r
  have hu := elT_spec he
  have hl := g2.length
  have e1 := size_zeroCells z.cells n
  rw [← Array.length_toList, hzs, ← hsz] at e1
  have h1 : ∀ u ∈ (Builtin.zeroCells z.cells n).toList, u.oneCell' = true := fun u hu => hz1 u (zeroCells_mem hu)
  have hst := run_storeCells_at P b off bt (Builtin.zeroCells z.cells n).toList 0 bs.toArray w g1 (by rw [Nat.add_zero, e1, List.size_toArray, hl]; exact hfit) h1
  simp only [Nat.add_zero] at hst
  have hml : ((Builtin.zeroCells z.cells n).toList.map ofV).length = n * szOf P e := by rw [List.length_map, e1]
  have G := goes_set hM hk hb (splice_len (off := off) (ds := (Builtin.zeroCells z.cells n).toList.map ofV) (by rw [hml]; exact hfit)) (splice_rep g2 (zeroD_rep _)) (one_splice g3 h1)
  refine ⟨_, _, η, .tuple #[], _, ?_, h _ hml, by simp only [Rep, RepL]; exact ⟨[], rfl, rfl⟩, G⟩
  cases n with
  | zero =>
    have : Builtin.zeroCells z.cells 0 = #[] := by simp [Builtin.zeroCells]
    simp only [this, List.append_nil, List.length_nil, Nat.add_zero, List.take_append_drop]
    have e0 : w.setRow b bs.toArray = w := setRow_self w b bs.toArray bt (0, 0) g1
    simp [Builtin.clear_, run_underlying hu, e0]
  | succ n => simp [Builtin.clear_, run_underlying hu, zeroValue, typeInfo, hi, hzr, hst]
/-- Two slices that lie apart. -/
theorem doverlaps {g : FuncId} {fn : Func} {t e : TypeId} {tr : TypeId} (hf : P.funcs[g]? = some fn) (hname : (fn.name == "runtime.NumGoroutine") = false) (hb : fn.body.isNone = true) (hn : Extern.findNext fn = none) (hx : Extern.find fn = some (Extern.SlicesOverlaps.overlaps #[t, t] #[tr]))
    (he : elT P t = some e) (hi : (P.info? e).isSome = true) {o : Own} {es : List D} {k off n c : Nat} {bt : TypeId} {cs : List D} (hk : S.ob k = some (.box bt cs)) (hcs : cs ≠ []) {K : D → St → Prop} (h : K (.v (.bool false)) S) : DCalls P g [.sl o es, .win k off n c] S K := by
  intro base η w vs hM hr
  simp only [RepL] at hr
  obtain ⟨x1, _, rfl, r1, x2, _, rfl, r2, rfl⟩ := hr
  obtain ⟨b, bs, rfl, hbb, g1, g2, g3, g4, g5⟩ := win_live hM hk r2
  obtain ⟨i, hi⟩ := Option.isSome_iff_exists.1 hi
  have hu := elT_spec he
  refine .inr ⟨.v (.bool false), S, η, .bool false, w, ?_, h, by simp only [Rep], Goes.refl hM⟩
  rw [run_callFunc_extern hf hname hb hn hx]
  simp only [Rep] at r1
  obtain ⟨A, cap, rfl, h2, h3, h4, h5⟩ := r1
  have hshb : w.shape? b = some (bt, bs.length) := by simp [World.shape?, g1]
  have hbl : bs.length ≠ 0 := by rw [g2.length]; exact fun h => hcs (List.eq_nil_of_length_eq_zero h)
  have hfb : ∀ x, w.frozen? ⟨b, x, none⟩ = false := fun x => by simp [World.frozen?, g1]
  have key : ((Extern.SlicesOverlaps.overlaps #[t, t] #[tr] #[.slice A es.length cap, .slice (some ⟨b, off, none⟩) n c]).run P w) = .ok (.bool false) w := by
    change Sem.run P (α := Value) (do
      let some t := (#[t, t] : Array TypeId)[0]? | stuck "slices.overlaps: no parameter types"
      let .slice elem ← underlying t | stuck "slices.overlaps: slice type expected"
      let size ← sizeOf elem
      match A, (some ⟨b, off, none⟩ : Option Addr) with
      | some a, some b =>
        if es.length = 0 ∨ n = 0 ∨ size = 0 then pure (Value.bool false)
        else if a.block != b.block && (← frozen a) && (← frozen b) then unsupported .addressObserved
        else do
          if a.block != b.block then do
            noView a; noView b
            if ← mayBeOne a b then return Value.bool ((← choose (.extern "sameAddr.stringBytes" 2)) == 1)
          pure (Value.bool (a.block == b.block && a.off < b.off + n * size && b.off < a.off + es.length * size))
      | _, _ => pure (Value.bool false)) w = _
    rcases Nat.eq_zero_or_pos es.length with h0 | h0
    · cases A with
      | none => simp [run_underlying hu, sizeOf, typeInfo, hi]
      | some a => simp [run_underlying hu, sizeOf, typeInfo, hi, h0]
    · obtain ⟨b', o', z, rfl, hz, hE⟩ := h5 h0
      obtain ⟨d, hd⟩ : ∃ d, es[0]? = some d := ⟨_, List.getElem?_eq_getElem h0⟩
      have hel := (RepE.get 0 hE hd).cells
      simp only [Nat.zero_mul, Nat.add_zero] at hel
      have hcell : Fix P S η b' o' ∧ ∃ x, w.cell? ⟨b', o', none⟩ = some x := by
        cases hdc : d.cells with
        | nil => exfalso; have := hel.1; rw [D.width, hdc] at this; simp at this; omega
        | cons y l =>
          have := hel.2
          rw [hdc] at this
          simp only [RepC] at this
          exact ⟨this.1.1, _, this.1.2.choose_spec.1⟩
      obtain ⟨hfix, x, hx⟩ := hcell
      have hne : b' ≠ b := fun e => by subst e; exact hfix k _ hbb hk
      have hsh : ∃ te kA, w.shape? b' = some (te, kA + 1) := by
        unfold World.cell? at hx
        unfold World.shape?
        simp only at hx ⊢
        split at hx
        · rename_i cc tt ff hh
          have : o' < cc.size := by
            simp only [Option.isSome_none, Bool.false_eq_true, if_false] at hx
            exact (Array.getElem?_eq_some_iff.1 hx).1
          exact ⟨tt, cc.size - 1, by congr 2; omega⟩
        · cases hx
      obtain ⟨te, kA, hsh⟩ := hsh
      have hnb : (b' != b) = true := by simpa using hne
      have hnb' : (b' == b) = false := by simpa using hne
      by_cases h0' : n = 0 ∨ i.size = 0
      · have : es.length = 0 ∨ n = 0 ∨ i.size = 0 := .inr h0'
        simp [run_underlying hu, sizeOf, typeInfo, hi]
        intro _ a1 a2
        exact absurd h0' (by simp [a1, a2])
      · have h00 : ¬ (es.length = 0 ∨ n = 0 ∨ i.size = 0) := by omega
        cases hz1 : w.frozen? ⟨b', o', none⟩ <;> cases hz2 : w.frozen? ⟨b', kA + 1, none⟩ <;>
          simp [run_underlying hu, sizeOf, typeInfo, hi, hnb, hnb', frozen, noView, viewAt, mayBeOne, stringish, shape, Sem.run, hsh, hshb, hfb, hz1, hz2, hbl]
  show ((Extern.SlicesOverlaps.overlaps #[t, t] #[tr] #[.slice A es.length cap, .slice (some ⟨b, off, none⟩) n c]).run P w).andThen _ = _
  rw [key]
  rfl
theorem splice_at {B C X : List D} {o : Nat} (ho : o = B.length) : splice (B ++ C) o X = B ++ X ++ C.drop X.length := by
  subst ho
  unfold splice
  rw [List.take_append_of_le_length (Nat.le_refl _), List.take_of_length_le (Nat.le_refl _), List.drop_append, List.drop_of_length_le (by omega), List.nil_append]
  congr 2
  omega
theorem ins_old {B C X zs : List D} {o o' : Nat} (ho : o = B.length) (ho' : o' = B.length + X.length) (hl : X.length ≤ zs.length) : splice (splice (B ++ C ++ zs) o' C) o X = B ++ X ++ C ++ zs.drop X.length := by
  have e : B ++ C ++ zs = (B ++ C ++ zs).take (B.length + X.length) ++ (B ++ C ++ zs).drop (B.length + X.length) := (List.take_append_drop _ _).symm
  have hl1 : ((B ++ C ++ zs).take (B.length + X.length)).length = B.length + X.length := by rw [List.length_take]; simp; omega
  have h1 : splice (B ++ C ++ zs) o' C = (B ++ C ++ zs).take (B.length + X.length) ++ C ++ zs.drop X.length := by
    rw [e, splice_at (ho'.trans hl1.symm), ← e, List.drop_drop, List.drop_append (l₁ := B ++ C), List.drop_of_length_le (by simp only [List.length_append]; omega), List.nil_append]
    congr 2
    simp only [List.length_append]
    omega
  rw [h1]
  have e2 : (B ++ C ++ zs).take (B.length + X.length) = B ++ (C ++ zs).take X.length := by
    rw [List.append_assoc, List.take_append, List.take_of_length_le (by omega)]
    congr 2
    omega
  have hl2 : ((C ++ zs).take X.length).length = X.length := by rw [List.length_take]; simp; omega
  rw [e2, List.append_assoc, List.append_assoc, splice_at ho]
  rw [List.drop_append, List.drop_of_length_le (by omega), List.nil_append, hl2, Nat.sub_self, List.drop_zero]
  try simp
/-- An owned slice, or nothing yet. -/
def OwnD (P : Program) (S : St) (e : TypeId) (es : List D) (d : D) : Prop := (es = [] ∧ d = .sl .full []) ∨ ∃ k c zs, d = .win k 0 es.length c ∧ S.ob k = some (ownOb e es zs c) ∧ (flat es ++ zs).length = c * szOf P e ∧ k < S.next
def St.left (S : St) : D → St
  | .win k _ _ _ => S.drop k
  | _ => S
/-- Appended to an owned slice, or to nothing. -/
theorem dapp_ownD {t tx ty e : TypeId} (he : elT P t = some e) (hx : (elT P tx).isSome = true) (hz : zeroT P e = true) (hz2 : zeroOk P e = true) {d : D} {es es2 : List D} {o2 : Own} {K : D → St → Prop} (hd : OwnD P S e es d) (hw1 : ∀ d ∈ es, d.width = szOf P e) (hw2 : ∀ d ∈ es2, d.width = szOf P e)
    (hb : es.length + es2.length ≤ 140737488355328) (hby : (es.length + es2.length) * bytesOf P e ≤ 140737488355328)
    (h : ∀ (c' : Nat) (zs' : List D), (flat (es ++ es2) ++ zs').length = c' * szOf P e → K (.win S.next 0 (es.length + es2.length) c') ((S.left d).add (ownOb e (es ++ es2) zs' c'))) : dapp P S t tx ty d (.sl o2 es2) K := by
  rcases hd with ⟨rfl, rfl⟩ | ⟨k, c, zs, rfl, hk, hl, hkn⟩
  · refine dapp_nil he (dappend_fresh he hx hz hz2 (srcOk_sl hw2) rfl (by simpa using hb) (by simpa using hby) fun c' zs' _ h2 => ?_)
    have := h c' zs' (by simpa using h2)
    simpa [St.left] using this
  · rw [dapp_atw]
    exact dappend_own he hx hz hz2 hk hl hw1 (srcOk_sl hw2) rfl hb hby hkn fun c' zs' _ h2 => h c' zs' h2
theorem OwnD.mono {T T' : St} {e : TypeId} {es : List D} {d : D} (hd : OwnD P T e es d) (hs : T.Sub T') : OwnD P T' e es d := by
  rcases hd with h | ⟨k, c, zs, h1, h2, h3, h4⟩
  · exact .inl h
  · exact .inr ⟨k, c, zs, h1, hs.ob _ _ h2, h3, Nat.lt_of_lt_of_le h4 hs.next⟩
theorem OwnD.sub {S0 T : St} (hS : S0.WF) (hs : S0.Sub T) {e : TypeId} {es : List D} {d : D} (hd : OwnD P T e es d) (hlo : ∀ k o n c, d = .win k o n c → S0.next ≤ k) : S0.Sub (T.left d) := by
  rcases hd with ⟨_, rfl⟩ | ⟨k, c, zs, rfl, _⟩
  · exact hs
  · exact ⟨hs.next, fun j o hj => by
      have h1 := hS.lt hj
      have h2 := hlo _ _ _ _ rfl
      show (if j = k then none else T.ob j) = some o
      rw [if_neg (by omega)]
      exact hs.ob j o hj⟩
theorem left_next (T : St) (d : D) : (T.left d).next = T.next := by cases d <;> rfl
theorem St.WF.left {T : St} (h : T.WF) (d : D) : (T.left d).WF := by
  cases d with
  | win k o n c => exact h.drop k
  | _ => exact h
/-- At a call's end: nothing, as an owned slice. -/
theorem OwnD.win {e : TypeId} {es : List D} {d : D} (hd : OwnD P S e es d) : ∃ S1 k c zs, Thaw P S d S1 (.win k 0 es.length c) ∧ (S1 = S ∨ S1 = S.add (.row e 0)) ∧ S1.ob k = some (ownOb e es zs c) ∧ (flat es ++ zs).length = c * szOf P e ∧ k < S1.next ∧ ((∃ o n c', d = .win k o n c') ∨ k = S.next) := by
  rcases hd with ⟨rfl, rfl⟩ | ⟨k, c, zs, rfl, h1, h2, h3⟩
  · exact ⟨_, S.next, 0, [], thaw_nil e, .inr rfl, by simp [St.add, ownOb_nil], by simp [flat], by simp [St.add], .inr rfl⟩
  · exact ⟨S, k, c, zs, Thaw.refl _ _ _, .inl rfl, h1, h2, h3, .inl ⟨_, _, _, rfl⟩⟩
end
end Go.Proofs.Ytjjhjhjphhpeiaa

namespace Go.Proofs.Ytjjhjhjphhpeiaa
open Go.RowKit
/-- The end of a call that is walked where it stands. -/
def DQ.inl (P : Program) (rs : List ResultVar) (K : D → St → Prop) : DQ
  | .exit _, _, _ => False
  | _, f, S' => dresL P f S' rs fun ds => K (one ds) S'
theorem dcalls_inline {P : Program} (hm : P.follows .mixedOrders = true) {g : FuncId} {fn : Func} {c : Code} (hf : P.funcs[g]? = some fn) (hb : fn.body = some c) (hent : ∀ vs w, (callFunc g vs).run P w = .ok (.enter g vs) w) {rs : List ResultVar} (hrs : fn.results.toList = rs) {args : List D} (hok : (codeOk fn.ntmps c && fn.results.all (resOk fn.ntmps) && Nat.ble args.length fn.ntmps) = true) {S : St} {K : D → St → Prop}
    (h : S.WF → dwp P c (DQ.inl P rs K) (argF args) S) : DCalls P g args S K := by
  subst hrs
  intro base η w vs hM hr
  refine .inl ⟨hent _ _, ?_⟩
  simp only [Bool.and_eq_true] at hok
  obtain ⟨⟨hok1, hok2⟩, hok3⟩ := hok
  have hlen : args.length ≤ fn.ntmps := Nat.le_of_ble_eq_true hok3
  have hl := hr.length
  have hsz : (vs.toArray ++ Array.replicate (fn.ntmps - vs.toArray.size) undef).size = fn.ntmps := by simp; omega
  refine calls_of_wp hf hb ?_
  refine dwp_sound hm c (a := { tmps := vs.toArray ++ Array.replicate (fn.ntmps - vs.toArray.size) undef, defers := [] }) (by rw [hsz]; exact hok1) hM (fun t ht => ?_) (h hM.fresh) fun e f' S' η' w' a' k1 k2 k3 k4 k5 => ?_
  · rw [hsz] at ht
    simp only [argF]
    by_cases h1 : t < vs.length
    · obtain ⟨x, hx, hr'⟩ := hr.get t (List.getElem?_eq_getElem (by omega : t < args.length))
      have e1 : args.getD t undefD = args[t] := by rw [List.getD_eq_getElem?_getD, List.getElem?_eq_getElem (by omega : t < args.length)]; rfl
      have e2 : (vs.toArray ++ Array.replicate (fn.ntmps - vs.toArray.size) undef).getD t undef = x := by
        rw [Array.getD_eq_getD_getElem?, Array.getElem?_append_left (by simpa using h1)]
        simp [hx]
      rw [e1, e2]
      exact hr'
    · have e1 : args.getD t undefD = undefD := by rw [List.getD_eq_getElem?_getD, List.getElem?_eq_none (by omega)]; rfl
      have e2 : (vs.toArray ++ Array.replicate (fn.ntmps - vs.toArray.size) undef).getD t undef = undef := by
        rw [Array.getD_eq_getD_getElem?, Array.getElem?_append_right (by simpa using h1)]
        rw [Array.getElem?_replicate]
        split <;> rfl
      rw [e1, e2]
      simp only [Rep, RepL]
      exact ⟨[], rfl, rfl⟩
  · have hsz' : a'.tmps.size = fn.ntmps := by rw [k4]; exact hsz
    have hd' : a'.defers = [] := k5
    have fin : dresL P f' S' fn.results.toList (fun ds => K (one ds) S') → a'.defers = [] ∧ ∃ v, (results fn a'.tmps).run P w' = .ok v w' ∧ ∃ d S'' η'' u, K d S'' ∧ Ending.returned v = .returned u ∧ Rep P w' η'' (Fix P S'' η'') d u ∧ Goes P base S η w S'' η'' w' := fun hres => by
      obtain ⟨ds, v, hk, q7, q8⟩ := results_sound k2.mem k3 (by rw [hsz']; exact hok2) hres
      exact ⟨hd', v, q8, one ds, S', η', v, hk, rfl, q7, k2⟩
    cases e with
    | normal => exact fin k1
    | ret => exact fin k1
    | exit i => exact k1.elim
section
variable {P : Program} {S : St} {f : Fm} {K : D → St → Prop}
theorem inl_ret (t : Tmp) (S' : St) : DQ.inl P [.tmp t] K .ret f S' = K (f t) S' := by simp [DQ.inl, dresL, dres, onVal, one]
theorem inl_normal (t : Tmp) (S' : St) : DQ.inl P [.tmp t] K .normal f S' = K (f t) S' := by simp [DQ.inl, dresL, dres, onVal, one]
theorem inl_ret2 (t u : Tmp) (S' : St) : DQ.inl P [.tmp t, .tmp u] K .ret f S' = K (.tup [f t, f u]) S' := by simp [DQ.inl, dresL, dres, onVal, one]
theorem inl_normal2 (t u : Tmp) (S' : St) : DQ.inl P [.tmp t, .tmp u] K .normal f S' = K (.tup [f t, f u]) S' := by simp [DQ.inl, dresL, dres, onVal, one]
theorem inl_ret0 (S' : St) : DQ.inl P [] K .ret f S' = K undefD S' := by simp [DQ.inl, dresL, one]
theorem inl_normal0 (S' : St) : DQ.inl P [] K .normal f S' = K undefD S' := by simp [DQ.inl, dresL, one]
end
theorem inl_cell_normal {P : Program} {f : Fm} {K : D → St → Prop} (x : Tmp) (t : TypeId) (S' : St) : DQ.inl P [.cell x t] K .normal f S' = dcellR P S' t (f x) (fun r => K r S') := onVal_cell x t _
theorem inl_cell_ret {P : Program} {f : Fm} {K : D → St → Prop} (x : Tmp) (t : TypeId) (S' : St) : DQ.inl P [.cell x t] K .ret f S' = dcellR P S' t (f x) (fun r => K r S') := onVal_cell x t _
attribute [go_sem] inl_cell_normal inl_cell_ret
attribute [go_sem] inl_ret inl_normal inl_ret2 inl_normal2 inl_ret0 inl_normal0
end Go.Proofs.Ytjjhjhjphhpeiaa

namespace Go.Proofs.Ytjjhjhjphhpeiaa
open Go.RowKit
set_option maxHeartbeats 4000000 in
set_option maxRecDepth 20000 in
theorem ins_str {S : St} {k c i n : Nat} {es zs : List D} {x : D} {o : Own} {K : D → St → Prop} (hk : S.ob k = some (ownOb 9 es zs c)) (hl : (flat es ++ zs).length = c * 1) (hw : ∀ d ∈ es, d.width = 1) (hx : x.width = 1) (hi : i ≤ es.length) (hn : es.length ≤ 1073741824) (hkn : k < S.next) (hnn : n = es.length)
    (h : ∀ (c' : Nat) (zs' : List D), es.length + 1 ≤ c' → (flat (es.take i ++ [x] ++ es.drop i) ++ zs').length = c' * 1 → K (.win S.next 0 (n + 1) c') ((S.drop k).add (ownOb 9 (es.take i ++ [x] ++ es.drop i) zs' c'))) :
    DCalls Try.prog 62 [.win k 0 n c, .v (.int .i64 i), .sl o [x]] S K := by
  subst hnn
  have hc := ownOb_len hw (by omega) hl
  have heT : elT Try.prog 22 = some 9 := by kernel_rfl
  have heS : (elT Try.prog 22).isSome = true := by rw [heT]; rfl
  have hsz : szOf Try.prog 9 = 1 := by kernel_rfl
  have hby : bytesOf Try.prog 9 = 16 := by kernel_rfl
  have hzT : zeroT Try.prog 9 = true := by kernel_rfl
  have hzO : zeroOk Try.prog 9 = true := by kernel_rfl
  have hiS := (zeroT_pos hzT).2
  refine DCalls.thaw ?_
  refine dcalls_inline mixed Try.func62 rfl (fun _ _ => by kernel_rfl) (rs := [.tmp 6]) rfl (by kernel_rfl) (fun hS => ?_)
  have hwr : IntKind.i64.wrap ((es.length : Int) + ((1 : Nat) : Int)) = ((es.length + 1 : Nat) : Int) := by rw [IntKind.wrap_i64]; omega
  have h10 : (((1 : Nat) : Int) == 0) = false := by decide
  by_cases hin : i = es.length
  · subst hin
    have b1 : ((es.length : Int) == (es.length : Int)) = true := by simp
    (simp (disch := first | decide | omega | (simp only [nx]; first | done | omega)) only [go_sem, Nat.reduceMul, hwr, h10, b1]; (repeat (with_reducible refine And.intro (by first | omega | assumption | rfl) ?_)))
    refine dappend_own heT heS hzT hzO hk (by rw [hsz]; exact hl) (by rw [hsz]; exact hw) (es2 := [x]) (srcOk_one (by rw [hsz]; exact hx)) rfl (by simp; omega) (by rw [hby]; simp; omega) hkn fun c' zs' h1 h2 => ?_
    (simp (disch := first | decide | omega | (simp only [nx]; first | done | omega)) only [go_sem, Nat.reduceMul]; (repeat (with_reducible refine And.intro (by first | omega | assumption | rfl) ?_)))
    refine ⟨_, _, Thaw.refl _ _ _, ?_⟩
    have := h c' zs' h1
    rw [List.take_of_length_le (Nat.le_refl _), List.drop_of_length_le (Nat.le_refl _), List.append_nil] at this
    exact this (by rw [hsz] at h2; exact h2)
  · have b1 : ((i : Int) == (es.length : Int)) = false := by simp; omega
    have hcap : 0 < c := by omega
    have hk0 := hk
    rw [ownOb_box hcap] at hk
    by_cases hgr : c < es.length + 1
    · have b2 : decide ((c : Int) < ((es.length + 1 : Nat) : Int)) = true := by simp; omega
      have hwr2 : IntKind.i64.wrap (((es.length + 1 : Nat) : Int) - (i : Int)) = ((es.length + 1 - i : Nat) : Int) := by rw [IntKind.wrap_i64]; omega
      have hwr3 : IntKind.i64.wrap ((i : Int) + ((1 : Nat) : Int)) = ((i + 1 : Nat) : Int) := by rw [IntKind.wrap_i64]; omega
      (simp (disch := first | decide | omega | (simp only [nx]; first | done | omega)) only [go_sem, Nat.reduceMul, hwr, h10, b1, b2, hwr2]; (repeat (with_reducible refine And.intro (by first | omega | assumption | rfl) ?_)))
      have hso := srcOk_own0 (c' := c) hk0 hc hw hi
      refine dappend_zeros heT (kk := .i64) (by kernel_rfl) hzT hzO hso (by omega) (by omega) (by omega) (by rw [hby]; omega) fun c' zs' h1 h2 => ?_
      have hfx : (flat [x]).length = 1 := by simpa [flat, D.width] using hx
      have hfB : (flat (es.take i)).length = i * 1 := by rw [dflat_length fun d hd => hw d (List.mem_of_mem_take hd), List.length_take]; congr 1; omega
      have hfC : (flat (es.drop i)).length = (es.length - i) * 1 := by rw [dflat_length fun d hd => hw d (List.mem_of_mem_drop hd), List.length_drop]
      rw [hsz] at h2
      (simp (disch := first | decide | omega | (simp only [nx]; first | done | omega)) only [go_sem, Nat.reduceMul, winOff_lt]; (repeat (with_reducible refine And.intro (by first | omega | assumption | rfl) ?_)))
      have hmin : Nat.min 1 (i + (es.length + 1 - i) - i) = 1 := by show min _ _ = _; omega
      have hzl : 1 ≤ zs'.length := by rw [List.length_append, hfB] at h2; omega
      refine dcopy_win heT hiS (m := 1) (cs := flat (es.take i) ++ zs') (bt := 9) (news := flat [x]) (by (first | (simp (disch := first | decide | omega | (simp only [nx]; first | done | omega)) only [go_sem, Nat.reduceMul]; first | done | rfl) | rfl)) (srcOk_one (by rw [hsz]; exact hx)) (by rw [hsz, h2, hmin]; omega) (cs' := flat (es.take i) ++ flat [x] ++ zs'.drop 1) (by rw [hsz, hmin, List.take_of_length_le (l := flat [x]) (by omega), splice_at (by rw [hfB]), hfx]) ?_
      (simp (disch := first | decide | omega | (simp only [nx]; first | done | omega)) only [go_sem, Nat.reduceMul, winOff_lt, hwr3]; (repeat (with_reducible refine And.intro (by first | omega | assumption | rfl) ?_)))
      refine ddraw_mk 8 (by kernel_rfl) ?_
      (simp (disch := first | decide | omega | (simp only [nx]; first | done | omega)) only [go_sem, Nat.reduceMul, winOff_lt, hwr3]; (repeat (with_reducible refine And.intro (by first | omega | assumption | rfl) ?_)))
      have hmin2 : Nat.min (es.length - i) (i + (es.length + 1 - i) - (i + 1)) = es.length - i := by show min _ _ = _; omega
      have hso2 := srcOk_own (S := (S.add (.box 9 (flat (es.take i) ++ zs'))).set S.next (.box 9 (flat (es.take i) ++ flat [x] ++ zs'.drop 1))) (l := i) (n := es.length - i) (c' := c - i) (k := k) (c := c) (e := 9) (es := es) (zs := zs) (z := 1) (by (first | (simp (disch := first | decide | omega | (simp only [nx]; first | done | omega)) only [go_sem, Nat.reduceMul, hk0]; first | done | rfl) | rfl)) hc hw (by omega)
      rw [List.take_of_length_le (l := es.drop i) (by rw [List.length_drop]; omega)] at hso2
      refine dcopy_win heT hiS (m := es.length - i) (cs := flat (es.take i) ++ flat [x] ++ zs'.drop 1) (bt := 9) (news := flat (es.drop i)) (by (first | (simp (disch := first | decide | omega | (simp only [nx]; first | done | omega)) only [go_sem, Nat.reduceMul]; first | done | rfl) | rfl)) (by rw [hsz]; exact hso2) (by rw [hsz, hmin2]; simp only [List.length_append, hfB, hfx, List.length_drop]; rw [List.length_append, hfB] at h2; omega) (cs' := flat (es.take i ++ [x] ++ es.drop i) ++ (zs'.drop 1).drop ((es.length - i) * 1)) (by rw [hsz, hmin2, List.take_of_length_le (l := flat (es.drop i)) (by omega), splice_at (by rw [List.length_append, hfB, hfx]; omega), hfC, flat_append, flat_append]) ?_
      (simp (disch := first | decide | omega | (simp only [nx]; first | done | omega)) only [go_sem, Nat.reduceMul]; (repeat (with_reducible refine And.intro (by first | omega | assumption | rfl) ?_)))
      refine ⟨_, _, thaw_drop k _, ?_⟩
      rw [St.add_set, St.add_set, St.add_drop _ _ hkn]
      have e1 : i + (es.length + 1 - i) = es.length + 1 := by omega
      rw [e1] at h1 ⊢
      have := h c' (List.drop ((es.length - i) * 1) (List.drop 1 zs')) h1 (by
        simp only [List.length_append, flat_append, hfB, hfC, hfx, List.length_drop]
        rw [List.length_append, hfB] at h2
        omega)
      rw [ownOb_box (by omega)] at this
      exact this
    · have b2 : decide ((c : Int) < ((es.length + 1 : Nat) : Int)) = false := by simp; omega
      have hwr3 : IntKind.i64.wrap ((i : Int) + ((1 : Nat) : Int)) = ((i + 1 : Nat) : Int) := by rw [IntKind.wrap_i64]; omega
      (simp (disch := first | decide | omega | (simp only [nx]; first | done | omega)) only [go_sem, Nat.reduceMul, hwr, hwr3, h10, b1, b2, winOff_lt]; (repeat (with_reducible refine And.intro (by first | omega | assumption | rfl) ?_)))
      refine doverlaps (tr := 4) Try.func91 (by kernel_rfl) (by kernel_rfl) (by kernel_rfl) (by kernel_rfl) heT hiS hk (fun e => by rw [e] at hl; simp at hl; omega) ?_
      (simp (disch := first | decide | omega | (simp only [nx]; first | done | omega)) only [go_sem, Nat.reduceMul, winOff_lt]; (repeat (with_reducible refine And.intro (by first | omega | assumption | rfl) ?_)))
      refine ddraw_mk 8 (by kernel_rfl) ?_
      (simp (disch := first | decide | omega | (simp only [nx]; first | done | omega)) only [go_sem, Nat.reduceMul, winOff_lt, hwr3]; (repeat (with_reducible refine And.intro (by first | omega | assumption | rfl) ?_)))
      have hfx : (flat [x]).length = 1 := by simpa [flat, D.width] using hx
      have hfB : (flat (es.take i)).length = i * 1 := by rw [dflat_length fun d hd => hw d (List.mem_of_mem_take hd), List.length_take]; congr 1; omega
      have hfC : (flat (es.drop i)).length = (es.length - i) * 1 := by rw [dflat_length fun d hd => hw d (List.mem_of_mem_drop hd), List.length_drop]
      have hff : flat es = flat (es.take i) ++ flat (es.drop i) := by rw [← flat_append, List.take_append_drop]
      have hzl : 1 ≤ zs.length := by rw [List.length_append, hff, List.length_append, hfB, hfC] at hl; omega
      have hmin : Nat.min (es.length + 1 - i) (es.length + 1 - (i + 1)) = es.length - i := by show min _ _ = _; omega
      obtain ⟨cs1, hcs1⟩ : ∃ cs1, splice (flat es ++ zs) ((i + 1) * 1) (flat (es.drop i)) = cs1 := ⟨_, rfl⟩
      have hcl : cs1.length = c * 1 := by rw [← hcs1, splice_len, hl]; rw [hl, hfC]; omega
      refine dcopy_win heT hiS (m := es.length + 1 - i) hk (srcOk_win hk (by rw [hsz, hl]; omega)) (by rw [hsz, hmin, hl]; omega) (cs' := cs1) (by
        rw [hsz, hmin, ← hcs1, List.take_take, Nat.min_eq_left (by omega), List.drop_append_of_le_length (by rw [hff, List.length_append, hfB]; omega), flat_drop hw, List.take_append_of_le_length (by omega), List.take_of_length_le (by omega)]) ?_
      (simp (disch := first | decide | omega | (simp only [nx]; first | done | omega)) only [go_sem, Nat.reduceMul, winOff_lt, hwr3]; (repeat (with_reducible refine And.intro (by first | omega | assumption | rfl) ?_)))
      have hmin2 : Nat.min 1 (es.length + 1 - i) = 1 := by show min _ _ = _; omega
      refine dcopy_win heT hiS (m := 1) (cs := cs1) (bt := 9) (news := flat [x]) (by (first | (simp (disch := first | decide | omega | (simp only [nx]; first | done | omega)) only [go_sem, Nat.reduceMul]; first | done | rfl) | rfl)) (srcOk_one (by rw [hsz]; exact hx)) (by rw [hsz, hmin2, hcl]; omega) (cs' := flat (es.take i ++ [x] ++ es.drop i) ++ zs.drop 1) (by rw [hsz, hmin2, List.take_of_length_le (l := flat [x]) (by omega), ← hcs1, hff, ins_old (by rw [hfB]) (by rw [hfB, hfx]; omega) (by omega), hfx, flat_append, flat_append]) ?_
      (simp (disch := first | decide | omega | (simp only [nx]; first | done | omega)) only [go_sem, Nat.reduceMul]; (repeat (with_reducible refine And.intro (by first | omega | assumption | rfl) ?_)))
      rw [St.set_set]
      refine ⟨_, _, thaw_rename (o := .box 9 (flat (es.take i ++ [x] ++ es.drop i) ++ zs.drop 1)) (by simp [St.set]), ?_⟩
      rw [St.set_drop]
      have := h c (zs.drop 1) (by omega) (by
        simp only [List.length_append, flat_append, hfB, hfC, hfx, List.length_drop]
        rw [List.length_append, hff, List.length_append, hfB, hfC] at hl
        omega)
      rw [ownOb_box (by omega)] at this
      exact this

set_option maxHeartbeats 4000000 in
set_option maxRecDepth 20000 in
theorem ins_val {S : St} {k c i n : Nat} {es zs : List D} {x : D} {o : Own} {K : D → St → Prop} (hk : S.ob k = some (ownOb 28 es zs c)) (hl : (flat es ++ zs).length = c * 6) (hw : ∀ d ∈ es, d.width = 6) (hx : x.width = 6) (hi : i ≤ es.length) (hn : es.length ≤ 1073741824) (hkn : k < S.next) (hnn : n = es.length)
    (h : ∀ (c' : Nat) (zs' : List D), es.length + 1 ≤ c' → (flat (es.take i ++ [x] ++ es.drop i) ++ zs').length = c' * 6 → K (.win S.next 0 (n + 1) c') ((S.drop k).add (ownOb 28 (es.take i ++ [x] ++ es.drop i) zs' c'))) :
    DCalls Try.prog 63 [.win k 0 n c, .v (.int .i64 i), .sl o [x]] S K := by
  subst hnn
  have hc := ownOb_len hw (by omega) hl
  have heT : elT Try.prog 23 = some 28 := by kernel_rfl
  have heS : (elT Try.prog 23).isSome = true := by rw [heT]; rfl
  have hsz : szOf Try.prog 28 = 6 := by kernel_rfl
  have hby : bytesOf Try.prog 28 = 104 := by kernel_rfl
  have hzT : zeroT Try.prog 28 = true := by kernel_rfl
  have hzO : zeroOk Try.prog 28 = true := by kernel_rfl
  have hiS := (zeroT_pos hzT).2
  refine DCalls.thaw ?_
  refine dcalls_inline mixed Try.func63 rfl (fun _ _ => by kernel_rfl) (rs := [.tmp 6]) rfl (by kernel_rfl) (fun hS => ?_)
  have hwr : IntKind.i64.wrap ((es.length : Int) + ((1 : Nat) : Int)) = ((es.length + 1 : Nat) : Int) := by rw [IntKind.wrap_i64]; omega
  have h10 : (((1 : Nat) : Int) == 0) = false := by decide
  by_cases hin : i = es.length
  · subst hin
    have b1 : ((es.length : Int) == (es.length : Int)) = true := by simp
    (simp (disch := first | decide | omega | (simp only [nx]; first | done | omega)) only [go_sem, Nat.reduceMul, hwr, h10, b1]; (repeat (with_reducible refine And.intro (by first | omega | assumption | rfl) ?_)))
    refine dappend_own heT heS hzT hzO hk (by rw [hsz]; exact hl) (by rw [hsz]; exact hw) (es2 := [x]) (srcOk_one (by rw [hsz]; exact hx)) rfl (by simp; omega) (by rw [hby]; simp; omega) hkn fun c' zs' h1 h2 => ?_
    (simp (disch := first | decide | omega | (simp only [nx]; first | done | omega)) only [go_sem, Nat.reduceMul]; (repeat (with_reducible refine And.intro (by first | omega | assumption | rfl) ?_)))
    refine ⟨_, _, Thaw.refl _ _ _, ?_⟩
    have := h c' zs' h1
    rw [List.take_of_length_le (Nat.le_refl _), List.drop_of_length_le (Nat.le_refl _), List.append_nil] at this
    exact this (by rw [hsz] at h2; exact h2)
  · have b1 : ((i : Int) == (es.length : Int)) = false := by simp; omega
    have hcap : 0 < c := by omega
    have hk0 := hk
    rw [ownOb_box hcap] at hk
    by_cases hgr : c < es.length + 1
    · have b2 : decide ((c : Int) < ((es.length + 1 : Nat) : Int)) = true := by simp; omega
      have hwr2 : IntKind.i64.wrap (((es.length + 1 : Nat) : Int) - (i : Int)) = ((es.length + 1 - i : Nat) : Int) := by rw [IntKind.wrap_i64]; omega
      have hwr3 : IntKind.i64.wrap ((i : Int) + ((1 : Nat) : Int)) = ((i + 1 : Nat) : Int) := by rw [IntKind.wrap_i64]; omega
      (simp (disch := first | decide | omega | (simp only [nx]; first | done | omega)) only [go_sem, Nat.reduceMul, hwr, h10, b1, b2, hwr2]; (repeat (with_reducible refine And.intro (by first | omega | assumption | rfl) ?_)))
      have hso := srcOk_own0 (c' := c) hk0 hc hw hi
      refine dappend_zeros heT (kk := .i64) (by kernel_rfl) hzT hzO hso (by omega) (by omega) (by omega) (by rw [hby]; omega) fun c' zs' h1 h2 => ?_
      have hfx : (flat [x]).length = 6 := by simpa [flat, D.width] using hx
      have hfB : (flat (es.take i)).length = i * 6 := by rw [dflat_length fun d hd => hw d (List.mem_of_mem_take hd), List.length_take]; congr 1; omega
      have hfC : (flat (es.drop i)).length = (es.length - i) * 6 := by rw [dflat_length fun d hd => hw d (List.mem_of_mem_drop hd), List.length_drop]
      rw [hsz] at h2
      (simp (disch := first | decide | omega | (simp only [nx]; first | done | omega)) only [go_sem, Nat.reduceMul, winOff_lt]; (repeat (with_reducible refine And.intro (by first | omega | assumption | rfl) ?_)))
      have hmin : Nat.min 1 (i + (es.length + 1 - i) - i) = 1 := by show min _ _ = _; omega
      have hzl : 6 ≤ zs'.length := by rw [List.length_append, hfB] at h2; omega
      refine dcopy_win heT hiS (m := 1) (cs := flat (es.take i) ++ zs') (bt := 28) (news := flat [x]) (by (first | (simp (disch := first | decide | omega | (simp only [nx]; first | done | omega)) only [go_sem, Nat.reduceMul]; first | done | rfl) | rfl)) (srcOk_one (by rw [hsz]; exact hx)) (by rw [hsz, h2, hmin]; omega) (cs' := flat (es.take i) ++ flat [x] ++ zs'.drop 6) (by rw [hsz, hmin, List.take_of_length_le (l := flat [x]) (by omega), splice_at (by rw [hfB]), hfx]) ?_
      (simp (disch := first | decide | omega | (simp only [nx]; first | done | omega)) only [go_sem, Nat.reduceMul, winOff_lt, hwr3]; (repeat (with_reducible refine And.intro (by first | omega | assumption | rfl) ?_)))
      refine ddraw_mk 8 (by kernel_rfl) ?_
      (simp (disch := first | decide | omega | (simp only [nx]; first | done | omega)) only [go_sem, Nat.reduceMul, winOff_lt, hwr3]; (repeat (with_reducible refine And.intro (by first | omega | assumption | rfl) ?_)))
      have hmin2 : Nat.min (es.length - i) (i + (es.length + 1 - i) - (i + 1)) = es.length - i := by show min _ _ = _; omega
      have hso2 := srcOk_own (S := (S.add (.box 28 (flat (es.take i) ++ zs'))).set S.next (.box 28 (flat (es.take i) ++ flat [x] ++ zs'.drop 6))) (l := i) (n := es.length - i) (c' := c - i) (k := k) (c := c) (e := 28) (es := es) (zs := zs) (z := 6) (by (first | (simp (disch := first | decide | omega | (simp only [nx]; first | done | omega)) only [go_sem, Nat.reduceMul, hk0]; first | done | rfl) | rfl)) hc hw (by omega)
      rw [List.take_of_length_le (l := es.drop i) (by rw [List.length_drop]; omega)] at hso2
      refine dcopy_win heT hiS (m := es.length - i) (cs := flat (es.take i) ++ flat [x] ++ zs'.drop 6) (bt := 28) (news := flat (es.drop i)) (by (first | (simp (disch := first | decide | omega | (simp only [nx]; first | done | omega)) only [go_sem, Nat.reduceMul]; first | done | rfl) | rfl)) (by rw [hsz]; exact hso2) (by rw [hsz, hmin2]; simp only [List.length_append, hfB, hfx, List.length_drop]; rw [List.length_append, hfB] at h2; omega) (cs' := flat (es.take i ++ [x] ++ es.drop i) ++ (zs'.drop 6).drop ((es.length - i) * 6)) (by rw [hsz, hmin2, List.take_of_length_le (l := flat (es.drop i)) (by omega), splice_at (by rw [List.length_append, hfB, hfx]; omega), hfC, flat_append, flat_append]) ?_
      (simp (disch := first | decide | omega | (simp only [nx]; first | done | omega)) only [go_sem, Nat.reduceMul]; (repeat (with_reducible refine And.intro (by first | omega | assumption | rfl) ?_)))
      refine ⟨_, _, thaw_drop k _, ?_⟩
      rw [St.add_set, St.add_set, St.add_drop _ _ hkn]
      have e1 : i + (es.length + 1 - i) = es.length + 1 := by omega
      rw [e1] at h1 ⊢
      have := h c' (List.drop ((es.length - i) * 6) (List.drop 6 zs')) h1 (by
        simp only [List.length_append, flat_append, hfB, hfC, hfx, List.length_drop]
        rw [List.length_append, hfB] at h2
        omega)
      rw [ownOb_box (by omega)] at this
      exact this
    · have b2 : decide ((c : Int) < ((es.length + 1 : Nat) : Int)) = false := by simp; omega
      have hwr3 : IntKind.i64.wrap ((i : Int) + ((1 : Nat) : Int)) = ((i + 1 : Nat) : Int) := by rw [IntKind.wrap_i64]; omega
      (simp (disch := first | decide | omega | (simp only [nx]; first | done | omega)) only [go_sem, Nat.reduceMul, hwr, hwr3, h10, b1, b2, winOff_lt]; (repeat (with_reducible refine And.intro (by first | omega | assumption | rfl) ?_)))
      refine doverlaps (tr := 4) Try.func93 (by kernel_rfl) (by kernel_rfl) (by kernel_rfl) (by kernel_rfl) heT hiS hk (fun e => by rw [e] at hl; simp at hl; omega) ?_
      (simp (disch := first | decide | omega | (simp only [nx]; first | done | omega)) only [go_sem, Nat.reduceMul, winOff_lt]; (repeat (with_reducible refine And.intro (by first | omega | assumption | rfl) ?_)))
      refine ddraw_mk 8 (by kernel_rfl) ?_
      (simp (disch := first | decide | omega | (simp only [nx]; first | done | omega)) only [go_sem, Nat.reduceMul, winOff_lt, hwr3]; (repeat (with_reducible refine And.intro (by first | omega | assumption | rfl) ?_)))
      have hfx : (flat [x]).length = 6 := by simpa [flat, D.width] using hx
      have hfB : (flat (es.take i)).length = i * 6 := by rw [dflat_length fun d hd => hw d (List.mem_of_mem_take hd), List.length_take]; congr 1; omega
      have hfC : (flat (es.drop i)).length = (es.length - i) * 6 := by rw [dflat_length fun d hd => hw d (List.mem_of_mem_drop hd), List.length_drop]
      have hff : flat es = flat (es.take i) ++ flat (es.drop i) := by rw [← flat_append, List.take_append_drop]
      have hzl : 6 ≤ zs.length := by rw [List.length_append, hff, List.length_append, hfB, hfC] at hl; omega
      have hmin : Nat.min (es.length + 1 - i) (es.length + 1 - (i + 1)) = es.length - i := by show min _ _ = _; omega
      obtain ⟨cs1, hcs1⟩ : ∃ cs1, splice (flat es ++ zs) ((i + 1) * 6) (flat (es.drop i)) = cs1 := ⟨_, rfl⟩
      have hcl : cs1.length = c * 6 := by rw [← hcs1, splice_len, hl]; rw [hl, hfC]; omega
      refine dcopy_win heT hiS (m := es.length + 1 - i) hk (srcOk_win hk (by rw [hsz, hl]; omega)) (by rw [hsz, hmin, hl]; omega) (cs' := cs1) (by
        rw [hsz, hmin, ← hcs1, List.take_take, Nat.min_eq_left (by omega), List.drop_append_of_le_length (by rw [hff, List.length_append, hfB]; omega), flat_drop hw, List.take_append_of_le_length (by omega), List.take_of_length_le (by omega)]) ?_
      (simp (disch := first | decide | omega | (simp only [nx]; first | done | omega)) only [go_sem, Nat.reduceMul, winOff_lt, hwr3]; (repeat (with_reducible refine And.intro (by first | omega | assumption | rfl) ?_)))
      have hmin2 : Nat.min 1 (es.length + 1 - i) = 1 := by show min _ _ = _; omega
      refine dcopy_win heT hiS (m := 1) (cs := cs1) (bt := 28) (news := flat [x]) (by (first | (simp (disch := first | decide | omega | (simp only [nx]; first | done | omega)) only [go_sem, Nat.reduceMul]; first | done | rfl) | rfl)) (srcOk_one (by rw [hsz]; exact hx)) (by rw [hsz, hmin2, hcl]; omega) (cs' := flat (es.take i ++ [x] ++ es.drop i) ++ zs.drop 6) (by rw [hsz, hmin2, List.take_of_length_le (l := flat [x]) (by omega), ← hcs1, hff, ins_old (by rw [hfB]) (by rw [hfB, hfx]; omega) (by omega), hfx, flat_append, flat_append]) ?_
      (simp (disch := first | decide | omega | (simp only [nx]; first | done | omega)) only [go_sem, Nat.reduceMul]; (repeat (with_reducible refine And.intro (by first | omega | assumption | rfl) ?_)))
      rw [St.set_set]
      refine ⟨_, _, thaw_rename (o := .box 28 (flat (es.take i ++ [x] ++ es.drop i) ++ zs.drop 6)) (by simp [St.set]), ?_⟩
      rw [St.set_drop]
      have := h c (zs.drop 6) (by omega) (by
        simp only [List.length_append, flat_append, hfB, hfC, hfx, List.length_drop]
        rw [List.length_append, hff, List.length_append, hfB, hfC] at hl
        omega)
      rw [ownOb_box (by omega)] at this
      exact this

end Go.Proofs.Ytjjhjhjphhpeiaa

namespace Go.Proofs.Ytjjhjhjphhpeiaa
open Go.RowKit
set_option linter.unusedSimpArgs false
set_option linter.unusedVariables false
theorem wVs (l : List DVal) : ∀ d ∈ l.map encV, d.width = 6 := fun d hd => by obtain ⟨p, _, rfl⟩ := List.mem_map.1 hd; exact cells_encV _
theorem wSs (l : List Str) : ∀ d ∈ l.map strD, d.width = 1 := fun d hd => by obtain ⟨p, _, rfl⟩ := List.mem_map.1 hd; rfl
theorem wUs (l : List Nat) : ∀ d ∈ l.map u64D, d.width = 1 := fun d hd => by obtain ⟨p, _, rfl⟩ := List.mem_map.1 hd; rfl
theorem szV : szOf Try.prog 28 = 6 := by kernel_rfl
theorem szS : szOf Try.prog 9 = 1 := by kernel_rfl
theorem szU : szOf Try.prog 24 = 1 := by kernel_rfl
theorem byV : bytesOf Try.prog 28 = 104 := by kernel_rfl
theorem byS : bytesOf Try.prog 9 = 16 := by kernel_rfl
theorem byU : bytesOf Try.prog 24 = 8 := by kernel_rfl
set_option maxRecDepth 200000 in
set_option maxHeartbeats 4000000 in
theorem parts_o (l : List DVal) (hl : l.length ≤ 1000000) (h : ∀ p ∈ l, DPure Try.prog 50 [encV p] (encV p)) {S : St} {K : D → St → Prop}
    (hK : ∀ T k c zs, S.Sub T → T.WF → S.next ≤ k → k < T.next → T.ob k = some (ownOb 28 (l.map encV) zs c) → (flat (l.map encV) ++ zs).length = c * 6 → K (.win k 0 l.length c) T) :
    DCalls Try.prog 75 [.sl .no (l.map encV), .fn (.func 50) [] []] S K := by
  refine DCalls.thaw ?_
  refine dcalls_inline mixed Try.func75 rfl (fun _ _ => by kernel_rfl) (rs := [.tmp 4]) rfl (by kernel_rfl) (fun hS => ?_)
  (simp (disch := first | decide | omega | (simp only [nx]; first | done | omega)) only [go_sem, Nat.reduceMul]; (repeat (with_reducible refine And.intro (by first | omega | assumption | rfl) ?_)))
  refine dloop_up (fun t => List.contains [5, 6, 7, 10, 11, 12, 13, 14, 15, 16, 17, 18, 19, 20] t) (by kernel_rfl) hS l.length (fun i g T => i ≤ l.length ∧ g 10 = .v (.int .i64 ((i : Nat) : Int)) ∧ OwnD Try.prog T 28 ((l.take i).map encV) (g 5) ∧ (∀ k o n c, g 5 = .win k o n c → S.next ≤ k) ∧ S.Sub T) ⟨by omega, by (first | (simp (disch := first | decide | omega | (simp only [nx]; first | done | omega)) only [go_sem, Nat.reduceMul]; first | done | rfl) | rfl), .inl ⟨by simp, by (first | (simp (disch := first | decide | omega | (simp only [nx]; first | done | omega)) only [go_sem, Nat.reduceMul]; first | done | rfl) | rfl)⟩, (fun k o n c e => by simp (disch := first | decide | omega | (simp only [nx]; first | done | omega)) only [go_sem, Nat.reduceMul] at e; cases e), St.Sub.refl S⟩ ?_
  rintro i g T hT hg ⟨le, q10, hO, hlo, hs⟩
  have q8 := hg 8 rfl
  have q1 := hg 1 rfl
  have q9 := hg 9 rfl
  simp (disch := first | decide | omega | (simp only [nx]; first | done | omega)) only [go_sem, Nat.reduceMul] at q8 q9 q1
  clear hg
  by_cases hlt : i < l.length
  · have b1 : decide ((i : Int) < (l.length : Int)) = true := by simp; omega
    have w1 : IntKind.i64.wrap ((i : Int) + 1) = ((i + 1 : Nat) : Int) := IntWalk.i64_in _ ⟨by omega, by omega⟩
    (simp (disch := first | decide | omega | (simp only [nx]; first | done | omega)) only [go_sem, Nat.reduceMul, q8, q9, q1, q10, b1]; (repeat (with_reducible refine And.intro (by first | omega | assumption | rfl) ?_)))
    refine DCalls.of_pure (h l[i] (List.getElem_mem hlt)) ?_
    (simp (disch := first | decide | omega | (simp only [nx]; first | done | omega)) only [go_sem, Nat.reduceMul, q1, q10, w1, St.add_set]; (repeat (with_reducible refine And.intro (by first | omega | assumption | rfl) ?_)))
    have hs1 : T.Sub (T.add (.box 28 (encV l[i]).cells)) := St.Sub.add (St.Sub.refl _) hT _
    refine dapp_ownD (es := (l.take i).map encV) (es2 := [encV l[i]]) (by (first | (simp (disch := first | decide | omega | (simp only [nx]; first | done | omega)) only [go_sem, Nat.reduceMul]; first | done | rfl) | rfl)) (by (first | (simp (disch := first | decide | omega | (simp only [nx]; first | done | omega)) only [go_sem, Nat.reduceMul]; first | done | rfl) | rfl)) (by (first | (simp (disch := first | decide | omega | (simp only [nx]; first | done | omega)) only [go_sem, Nat.reduceMul]; first | done | rfl) | rfl)) (by (first | (simp (disch := first | decide | omega | (simp only [nx]; first | done | omega)) only [go_sem, Nat.reduceMul]; first | done | rfl) | rfl)) (hO.mono hs1) (by rw [szV]; exact wVs _) (by rw [szV]; exact wVs [l[i]]) (by simp; omega) (by rw [byV]; simp; omega) fun c' zs' h2 => ?_
    rw [szV] at h2
    (simp (disch := first | decide | omega | (simp only [nx]; first | done | omega)) only [go_sem, Nat.reduceMul, q1, q10, w1]; (repeat (with_reducible refine And.intro (by first | omega | assumption | rfl) ?_)))
    have hli : (l.take i).length = i := by rw [List.length_take]; omega
    have hsl := OwnD.sub (P := Try.prog) hS (hs.trans hs1) (hO.mono hs1) hlo
    have hwf := (hT.add (.box 28 (encV l[i]).cells)).left (g 5)
    have e1 : (l.take i).map encV ++ [encV l[i]] = (l.take (i + 1)).map encV := by rw [List.take_succ_eq_append_getElem hlt, List.map_append]; rfl
    have hl1 : (l.take (i + 1)).length = i + 1 := by rw [List.length_take]; omega
    have hsn := hs.next
    refine ⟨hlt, _, fun _ _ h => h, by omega, by (first | (simp (disch := first | decide | omega | (simp only [nx]; first | done | omega)) only [go_sem, Nat.reduceMul]; first | done | rfl) | rfl), .inr ⟨T.next + 1, c', zs', by simp (disch := first | decide | omega | (simp only [nx]; first | done | omega)) only [go_sem, Nat.reduceMul]; rw [hli, hl1], ?_, ?_, ?_⟩, ?_, ?_⟩
    · show (if T.next + 1 = ((T.add _).left _).next then _ else _) = _
      rw [left_next, add_next, if_pos rfl, e1]
    · rw [szV, ← e1]; exact h2
    · show T.next + 1 < ((T.add _).left _).next + 1
      rw [left_next, add_next]; omega
    · intro k o n c e
      simp (disch := first | decide | omega | (simp only [nx]; first | done | omega)) only [go_sem, Nat.reduceMul] at e
      injection e with e _ _ _
      omega
    · exact hsl.add hS _
  · have b1 : decide ((i : Int) < (l.length : Int)) = false := by simp; omega
    (simp (disch := first | decide | omega | (simp only [nx]; first | done | omega)) only [go_sem, Nat.reduceMul, q8, q9, q1, q10, b1]; (repeat (with_reducible refine And.intro (by first | omega | assumption | rfl) ?_)))
    have hil : i = l.length := by omega
    rw [hil, List.take_of_length_le (Nat.le_refl _)] at hO
    obtain ⟨S1, k, c, zs, k1, k2, k3, k4, k5, k6⟩ := hO.win
    refine ⟨S1, _, k1, ?_⟩
    rw [List.length_map]
    have hsn := hs.next
    have hlk : S.next ≤ k := by
      rcases k6 with ⟨o, n, c', e⟩ | rfl
      · exact hlo _ _ _ _ e
      · exact hsn
    rcases k2 with rfl | rfl
    · exact hK _ k c zs hs hT hlk k5 k3 (by rw [← szV]; exact k4)
    · exact hK _ k c zs (hs.add hS _) (hT.add _) hlk k5 k3 (by rw [← szV]; exact k4)
/-- A value whose slices are owned. -/
def ownV (v : DVal) (a b c ca cb cc : Nat) : D := .agg [.v (.int .i64 v.kind), .v (.int .i64 v.n), .v (sv v.s), .win a 0 v.names.length ca, .win b 0 v.ids.length cb, .win c 0 v.parts.length cc]
structure OV (T : St) (v : DVal) (a b c ca cb cc : Nat) (zn zi zp : List D) : Prop where
  obn : T.ob a = some (ownOb 9 (v.names.map strD) zn ca)
  ln : (flat (v.names.map strD) ++ zn).length = ca * 1
  obi : T.ob b = some (ownOb 24 (v.ids.map u64D) zi cb)
  li : (flat (v.ids.map u64D) ++ zi).length = cb * 1
  obp : T.ob c = some (ownOb 28 (v.parts.map encV) zp cc)
  lp : (flat (v.parts.map encV) ++ zp).length = cc * 6
  ab : a ≠ b
  ac : a ≠ c
  bc : b ≠ c
set_option maxRecDepth 200000 in
set_option maxHeartbeats 4000000 in
theorem copy_o (v : DVal) (hw : v.weight ≤ 1000000) {S : St} {K : D → St → Prop}
    (hK : ∀ T a b c ca cb cc zn zi zp, S.Sub T → T.WF → S.next ≤ a → S.next ≤ b → S.next ≤ c → OV T v a b c ca cb cc zn zi zp → K (ownV v a b c ca cb cc) T) :
    DCalls Try.prog 50 [encV v] S K := by
  have hwe := v.weight_eq
  have hpl := partsLen v
  refine dcalls_inline mixed Try.func50 rfl (fun _ _ => by kernel_rfl) (rs := [.cell 2 28]) rfl (by kernel_rfl) (fun hS => ?_)
  (simp (disch := first | decide | omega | (simp only [nx]; first | done | omega)) only [go_sem, Nat.reduceMul, encV_eq v]; (repeat (with_reducible refine And.intro (by first | omega | assumption | rfl) ?_)))
  have heS : elT Try.prog 22 = some 9 := by kernel_rfl
  have heU : elT Try.prog 26 = some 24 := by kernel_rfl
  refine ddraw_cut (fun g T => g 1 = .loc S.next 0 ∧ g 2 = .loc (S.next + 1) 0 ∧ ∃ a b ca cb zn zi, T.ob S.next = some (.box 28 [.v (.int .i64 v.kind), .v (.int .i64 v.n), .v (sv v.s), .win a 0 v.names.length ca, .win b 0 v.ids.length cb, .sl .no (v.parts.map encV)]) ∧ T.ob (S.next + 1) = some (.box 28 [.v (.int .i64 0), .v (.int .i64 0), .v (.string ⟨#[]⟩), .sl .full [], .sl .full [], .sl .full []]) ∧ S.Sub T ∧ T.WF ∧ S.next + 2 ≤ a ∧ S.next + 2 ≤ b ∧ a < T.next ∧ b < T.next ∧ a ≠ b ∧
    T.ob a = some (ownOb 9 (v.names.map strD) zn ca) ∧ (flat (v.names.map strD) ++ zn).length = ca * 1 ∧ T.ob b = some (ownOb 24 (v.ids.map u64D) zi cb) ∧ (flat (v.ids.map u64D) ++ zi).length = cb * 1) ?_ ?_
  · refine ddraw_any (fun T => T.ob S.next = some (.box 28 [.v (.int .i64 v.kind), .v (.int .i64 v.n), .v (sv v.s), .sl .no (v.names.map strD), .sl .no (v.ids.map u64D), .sl .no (v.parts.map encV)])) 7 (by (first | (simp (disch := first | decide | omega | (simp only [nx]; first | done | omega)) only [go_sem, Nat.reduceMul, strD]; first | done | rfl) | rfl)) (by kernel_rfl) ?_
    (refine s_take 0 rfl (by kernel_rfl) (by kernel_rfl) (v := ?v1) (fun S' hz => dquietR_of ?h1) <| s_take 1 rfl (by kernel_rfl) (by kernel_rfl) (v := ?v2) (fun S' hz => dquietR_of ?h2) <| s_take 3 rfl (by kernel_rfl) (by kernel_rfl) (v := ?v3) (fun S' hz => dquietR_of ?h3) <| s_take 4 rfl (by kernel_rfl) (by kernel_rfl) (v := ?v4) (fun S' hz => dquietR_of ?h4) <| ?k4; (case h1 | h2 | h3 | h4 => ((simp (disch := first | decide | omega | (simp only [nx]; first | done | omega)) only [go_sem, Nat.reduceMul, hz]; (repeat (with_reducible refine And.intro (by first | omega | assumption | rfl) ?_))); first | done | exact rfl | omega)))
    (refine s_split [2] (by kernel_rfl) (by simp) ?_; intro j_ hj_; obtain rfl : j_ = 2 := (by simpa using hj_); clear hj_; refine s_op rfl ?_; (simp (disch := first | decide | omega | (simp only [nx]; first | done | omega)) only [go_sem, Nat.reduceMul]; (repeat (with_reducible refine And.intro (by first | omega | assumption | rfl) ?_))))
    refine dapp_nil heS (dappend_fresh heS (by rw [heS]; rfl) (by kernel_rfl) (by kernel_rfl) (es2 := v.names.map strD) (srcOk_sl (by rw [szS]; exact wSs _)) rfl (by rw [List.length_map]; omega) (by rw [byS, List.length_map]; omega) fun ca zn _ hln => ?_)
    rw [szS] at hln
    rw [List.length_map]
    refine ⟨by (first | (simp (disch := first | decide | omega | (simp only [nx]; first | done | omega)) only [go_sem, Nat.reduceMul]; first | done | rfl) | rfl), ?_⟩
    (refine s_take 6 rfl (by kernel_rfl) (by kernel_rfl) (v := ?v5) (fun S' hz => dquietR_of ?h5) ?k5; (case h5 => ((simp (disch := first | decide | omega | (simp only [nx]; first | done | omega)) only [go_sem, Nat.reduceMul, hz]; (repeat (with_reducible refine And.intro (by first | omega | assumption | rfl) ?_))); first | done | exact rfl | omega)))
    (refine s_split [5] (by kernel_rfl) (by simp) ?_; intro j_ hj_; obtain rfl : j_ = 5 := (by simpa using hj_); clear hj_; refine s_op rfl ?_; (simp (disch := first | decide | omega | (simp only [nx]; first | done | omega)) only [go_sem, Nat.reduceMul]; (repeat (with_reducible refine And.intro (by first | omega | assumption | rfl) ?_))))
    refine dapp_nil heU (dappend_fresh heU (by rw [heU]; rfl) (by kernel_rfl) (by kernel_rfl) (es2 := v.ids.map u64D) (srcOk_sl (by rw [szU]; exact wUs _)) rfl (by rw [List.length_map]; omega) (by rw [byU, List.length_map]; omega) fun cb zi _ hli => ?_)
    rw [szU] at hli
    rw [List.length_map]
    refine ⟨by (first | (simp (disch := first | decide | omega | (simp only [nx]; first | done | omega)) only [go_sem, Nat.reduceMul]; first | done | rfl) | rfl), ?_⟩
    (refine s_done (by kernel_rfl) ?_; (simp (disch := first | decide | omega | (simp only [nx]; first | done | omega)) only [go_sem, Nat.reduceMul]; (repeat (with_reducible refine And.intro (by first | omega | assumption | rfl) ?_))))
    refine ⟨_, _, _, _, zn, zi, rfl, ?_, ?_, by omega, by omega, ?_, ?_, by omega, ?_, hln, ?_, hli⟩
    · exact (by (repeat' first | assumption | exact St.Sub.refl _ | exact RowOk.sub (by assumption) (by assumption) | refine St.Sub.trans ?_ (RowOk.sub (by assumption) (by assumption)) | refine St.Sub.add ?_ ?_ _ | refine St.Sub.set ?_ ?_ ?_ _ | refine St.Sub.keep ?_ ?_ | refine St.WF.leave ?_ _ | refine St.WF.add ?_ _ | refine St.WF.set ?_ ?_ _ | refine St.WF.grow ?_ _ _ _ | refine St.WF.keep ?_ ?_ | (first | omega | (simp only [RowOk.lo, nx]; first | done | omega))))
    · exact (by (repeat' first | assumption | refine St.WF.leave ?_ _ | refine St.WF.add ?_ _ | refine St.WF.set ?_ ?_ _ | refine St.WF.grow ?_ _ _ _ | refine St.WF.keep ?_ ?_ | (first | omega | (simp only [RowOk.lo, nx]; first | done | omega))))
    · omega
    · omega
    · (first | (simp (disch := first | decide | omega | (simp only [nx]; first | done | omega)) only [go_sem, Nat.reduceMul]; first | done | rfl) | rfl)
    · (first | (simp (disch := first | decide | omega | (simp only [nx]; first | done | omega)) only [go_sem, Nat.reduceMul]; first | done | rfl) | rfl)
  · rintro g T ⟨q1, q2, a, b, ca, cb, zn, zi, t0, t1, hs, hT, ha, hb, ha', hb', hab, hn1, hn2, hi1, hi2⟩
    (simp (disch := first | decide | omega | (simp only [nx]; first | done | omega)) only [go_sem, Nat.reduceMul, q1, q2, t0, t1]; (repeat (with_reducible refine And.intro (by first | omega | assumption | rfl) ?_)))
    refine parts_o v.parts (by omega) (fun p hp => copyV_d p.depth p (Nat.le_refl _) (by have := DVal.weight_part hp; omega)) fun T1 c cc zp hs1 hT1 hc1 hc2 hp1 hp2 => ?_
    have u0 := hs1.ob _ _ t0
    have u1 := hs1.ob _ _ t1
    have ua := hs1.ob _ _ hn1
    have ub := hs1.ob _ _ hi1
    (simp (disch := first | decide | omega | (simp only [nx]; first | done | omega)) only [go_sem, Nat.reduceMul, q1, q2, u0, u1]; (repeat (with_reducible refine And.intro (by first | omega | assumption | rfl) ?_)))
    have hsn := hs.next
    have hsn1 := hs1.next
    have hst : S.Sub T1 := hs.trans hs1
    refine hK _ a b c ca cb cc zn zi zp ?_ ?_ (by omega) (by omega) (by omega) ⟨?_, hn2, ?_, hi2, ?_, hp2, hab, by omega, by omega⟩
    · exact (hst.set hS (Nat.le_refl _) _).set hS (by omega) _
    · exact (hT1.set (by omega) _).set (by show S.next + 1 < T1.next; omega) _
    · (first | (simp (disch := first | decide | omega | (simp only [nx]; first | done | omega)) only [go_sem, Nat.reduceMul, ua]; first | done | rfl) | rfl)
    · (first | (simp (disch := first | decide | omega | (simp only [nx]; first | done | omega)) only [go_sem, Nat.reduceMul, ub]; first | done | rfl) | rfl)
    · (first | (simp (disch := first | decide | omega | (simp only [nx]; first | done | omega)) only [go_sem, Nat.reduceMul, hp1]; first | done | rfl) | rfl)
end Go.Proofs.Ytjjhjhjphhpeiaa

namespace Go.Proofs.Ytjjhjhjphhpeiaa
open Go.RowKit
set_option linter.unusedSimpArgs false
set_option linter.unusedVariables false
theorem thawOV {T : St} {v : DVal} {a b c ca cb cc : Nat} {zn zi zp : List D} (h : OV T v a b c ca cb cc zn zi zp) : Thaw Try.prog T (ownV v a b c ca cb cc) (((T.drop a).drop b).drop c) (encV v) := by
  have hba : b ≠ a := fun e => h.ab e.symm
  have hca : c ≠ a := fun e => h.ac e.symm
  have hcb : c ≠ b := fun e => h.bc e.symm
  have n1 := ownOb_len (wSs v.names) (by omega) h.ln
  have n2 := ownOb_len (wUs v.ids) (by omega) h.li
  have n3 := ownOb_len (wVs v.parts) (by omega) h.lp
  have bne : ∀ {x y : Nat}, x ≠ y → Nat.beq x y = false := fun {x y} hne => by
    cases hb : Nat.beq x y with
    | false => rfl
    | true => exact absurd (Nat.eq_of_beq_eq_true hb) hne
  refine Thaw.trans (thaw_own (zs := zn) h.obn n1 (by rw [szS]; omega) (by rw [szS]; exact wSs _) rfl) ?_
  refine Thaw.trans (thaw_own (k := b) (zs := zi) (c := cb) (e := 24) (es := v.ids.map u64D) (by simp only [St.drop, if_neg hba]; exact h.obi) n2 (by rw [szU]; omega) (by rw [szU]; exact wUs _) rfl) ?_
  refine thaw_own (k := c) (zs := zp) (c := cc) (e := 28) (es := v.parts.map encV) (by simp only [St.drop, if_neg hca, if_neg hcb]; exact h.obp) n3 (by rw [szV]; omega) (by rw [szV]; exact wVs _) ?_
  simp only [ownV, D.thaw, thawL, List.length_map, Nat.beq_refl, Bool.and_self, Bool.and_true, cond_true, bne h.ab, bne h.ac, bne h.bc, bne hba, bne hca, bne hcb, Bool.false_and, cond_false]
  rw [encV_eq]
  rfl
section
variable {P : Program} {base : Nat} {S : St} {η : Names} {w : World}
theorem flat_vs {α : Type} (g : α → Value) (l : List α) : flat (l.map fun a => D.v (g a)) = l.map fun a => D.v (g a) := by
  induction l with
  | nil => rfl
  | cons a l ih =>
    have : flat ((a :: l).map fun a => D.v (g a)) = D.v (g a) :: flat (l.map fun a => D.v (g a)) := by simp [flat, D.cells]
    rw [this, ih]
    rfl
/-- An owned slice of scalars, in memory. -/
theorem win_scalars {α : Type} (g : α → Value) (hM : Mem P base S η w) {k c : Nat} {e : TypeId} {l : List α} {zs : List D} {y : Value} (hk : S.ob k = some (ownOb e (l.map fun a => D.v (g a)) zs c)) (hc : l.length ≤ c) (h : Rep P w η (Fix P S η) (.win k 0 l.length c) y) :
    ∃ A, y = .slice A l.length c ∧ RF w (· < w.heap.size) 1 A l.length (l.map g) := by
  obtain ⟨us, ⟨⟨A, c', rfl, _, hA⟩, h2, h3⟩, h4⟩ := srcOk_at hM (z := 1) (m := l.length) (news := flat (l.map fun a => D.v (g a))) (by
    have := srcOk_ownA (z := 1) (c' := c) hk (by rw [List.length_map]; exact hc) (fun d hd => by obtain ⟨a, _, rfl⟩ := List.mem_map.1 hd; rfl)
    rwa [List.length_map] at this) h
  rw [flat_vs] at h4
  have hus : us = l.map g := by
    have : ∀ (l : List α) (us : List Value), RepL P w η (Fix P S η) (l.map fun a => D.v (g a)) us → us = l.map g := by
      intro l
      induction l with
      | nil => intro us h; simp only [List.map_nil, RepL] at h; simp [h]
      | cons a l ih =>
        intro us h
        simp only [List.map_cons, RepL, Rep] at h
        obtain ⟨x, xs, rfl, rfl, h⟩ := h
        rw [ih xs h]; rfl
    exact this l us h4
  subst hus
  obtain ⟨A', e1, _⟩ := h.win_slice
  injection e1 with e1 _ e2
  subst e2
  refine ⟨A, rfl, by simp, fun h0 => ?_⟩
  rcases hA with ⟨_, h0'⟩ | ⟨a, rfl, ha⟩
  · omega
  · have hr := h
    simp only [Rep] at hr
    rcases hr with ⟨b, hb, e, _⟩ | ⟨_, h0', _⟩
    · injection e with e
      injection e with e
      subst e
      refine ⟨b, 0, rfl, (hM.in_ k b hb).2, fun j u hu => ?_⟩
      have := ha j u hu
      rwa [Addr.add_mid] at this
    · omega
end
theorem uIndex_w {S : St} {k c : Nat} {zs : List D} {K : D → St → Prop} (l : List Nat) (x : Nat) (hn : l.length ≤ 140737488351232) (hk : S.ob k = some (ownOb 24 (l.map u64D) zs c)) (hc : l.length ≤ c) (h : K (.v (.int .i64 (ixI l x))) S) :
    DCalls Try.prog 36 [.win k 0 l.length c, .v (uv x)] S K := fun base η w vs hM hr => by
  simp only [RepL] at hr
  obtain ⟨y, ys, rfl, h1, z, zs, rfl, h2, rfl⟩ := hr
  obtain ⟨A, rfl, hf⟩ := win_scalars uv hM hk hc h1
  simp only [Rep] at h2
  subst h2
  refine .inl ⟨by kernel_rfl, (uIndex_calls l x A c w hf hn).mono fun e w' ⟨he, hw⟩ => ?_⟩
  subst hw
  exact ⟨_, S, η, _, h, idxP_ix he, by simp only [Rep], Goes.refl hM⟩
end Go.Proofs.Ytjjhjhjphhpeiaa
