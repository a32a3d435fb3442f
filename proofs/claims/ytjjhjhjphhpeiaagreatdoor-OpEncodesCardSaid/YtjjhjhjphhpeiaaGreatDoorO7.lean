/- Texts of a proof, part 7. Conditions: none. -/
import Derived.Test.YtjjhjhjphhpeiaaGreatDoorO6
set_option linter.unusedVariables false
set_option linter.unusedSimpArgs false
namespace Go.Proofs.YtjjhjhjphhpeiaaGreatDoor
open Go.RowKit
theorem inl_cell_tmp_normal {P : Program} {f : Fm} {K : D → St → Prop} (x : Tmp) (t : TypeId) (u : Tmp) (S' : St) : DQ.inl P [.cell x t, .tmp u] K .normal f S' = dcellR P S' t (f x) (fun r => K (.tup [r, f u]) S') := by
  rw [← onVal_cell]
  simp [DQ.inl, dresL, dres, onVal, one]
theorem inl_cell_tmp_ret {P : Program} {f : Fm} {K : D → St → Prop} (x : Tmp) (t : TypeId) (u : Tmp) (S' : St) : DQ.inl P [.cell x t, .tmp u] K .ret f S' = dcellR P S' t (f x) (fun r => K (.tup [r, f u]) S') := by
  rw [← onVal_cell]
  simp [DQ.inl, dresL, dres, onVal, one]
attribute [go_sem] inl_cell_tmp_normal inl_cell_tmp_ret
structure Fz (Q : Nat → Prop) (T X : St) : Prop where
  next : T.next ≤ X.next
  ob : ∀ j o, Q j → T.ob j = some o → X.ob j = some o
section
variable {Q Q' : Nat → Prop} {T X Y : St} {k : Nat} {o : Ob}
theorem Fz.refl (Q : Nat → Prop) (T : St) : Fz Q T T := ⟨Nat.le_refl _, fun _ _ _ h => h⟩
theorem Fz.trans (h : Fz Q T X) (g : Fz Q X Y) : Fz Q T Y := ⟨Nat.le_trans h.next g.next, fun j o hj e => g.ob j o hj (h.ob j o hj e)⟩
theorem Fz.mono (h : Fz Q T X) (hq : ∀ j, Q' j → Q j) : Fz Q' T X := ⟨h.next, fun j o hj e => h.ob j o (hq j hj) e⟩
theorem Fz.sub (h : T.Sub X) : Fz Q T X := ⟨h.next, fun j o _ e => h.ob j o e⟩
theorem Fz.set (h : Fz Q T X) (hT : T.WF) (hk : ¬ Q k ∨ T.next ≤ k) : Fz Q T (X.set k o) := ⟨h.next, fun j o' hj e => by
  have := hT.lt e
  have hne : j ≠ k := fun e2 => by
    subst e2
    rcases hk with hk | hk
    · exact hk hj
    · omega
  show (if j = k then _ else X.ob j) = _
  rw [if_neg hne]
  exact h.ob j o' hj e⟩
theorem Fz.add (h : Fz Q T X) (hT : T.WF) : Fz Q T (X.add o) := ⟨Nat.le_succ_of_le h.next, fun j o' hj e => by
  have := hT.lt e
  have := h.next
  rw [add_ob, if_neg (by omega)]
  exact h.ob j o' hj e⟩
theorem Fz.drop (h : Fz Q T X) (hT : T.WF) (hk : ¬ Q k ∨ T.next ≤ k) : Fz Q T (X.drop k) := ⟨h.next, fun j o' hj e => by
  have := hT.lt e
  have hne : j ≠ k := fun e2 => by
    subst e2
    rcases hk with hk | hk
    · exact hk hj
    · omega
  show (if j = k then none else X.ob j) = _
  rw [if_neg hne]
  exact h.ob j o' hj e⟩
end
structure Aft (c : Nat) (Post : DVal → Nat → St → Prop) (r : Option DVal) (S T : St) : Prop where
  fr : Fz (· ≠ c) S T
  cob : r = none → Fz (· = c) S T
  post : ∀ u, r = some u → ∃ n, S.next ≤ n ∧ Post u n T
def Mono (c : Nat) (Post : DVal → Nat → St → Prop) : Prop := ∀ u n (T T' : St), Post u n T → Fz (fun j => j = c ∨ n ≤ j) T T' → Post u n T'
def VisG (g : FuncId) (fs cs : List D) (fV : DVal → DVal) (c : Nat) (Post : DVal → Nat → St → Prop) (S : St) : Prop := ∀ S' u, S.Sub S' → S'.WF → u.weight ≤ 1000000 → okV u → DCalls Tryz.prog g (fs ++ [encV u] ++ cs) S' (fun d T => d = encV (fV u) ∧ Aft c Post (some u) S' T ∧ T.WF)
theorem VisG.sub {g : FuncId} {fs cs : List D} {fV : DVal → DVal} {c : Nat} {Post : DVal → Nat → St → Prop} {S T : St} (h : VisG g fs cs fV c Post S) (hs : S.Sub T) : VisG g fs cs fV c Post T :=
  fun S' u h1 h2 h3 => h S' u (hs.trans h1) h2 h3
set_option maxRecDepth 200000 in
set_option maxHeartbeats 8000000 in
theorem change_o (g : FuncId) (fs cs : List D) (fV : DVal → DVal) (c : Nat) (Post : DVal → Nat → St → Prop) (hP : Mono c Post) : ∀ (ps : List DStp) (own : Own) (v : DVal) (S : St), okV v → v.weight ≤ 1000000 → ps.length ≤ 1000000 → c < S.next → VisG g fs cs fV c Post S →
    DCalls Tryz.prog 146 [encV v, .sl own (ps.map encP), .fn (.func g) fs cs] S (fun d T => d = .tup [encV (chV fV ps v), .v (.bool (getV ps v).isSome)] ∧ Aft c Post (getV ps v) S T ∧ T.WF) := by
  intro ps
  induction ps with
  | nil =>
    intro own v S hok hw hl hcS hv
    refine dcalls_inline mixed Tryz.func146 rfl (fun _ _ => by kernel_rfl) (rs := [.cell 6 29, .tmp 7]) rfl (by kernel_rfl) (fun hS => ?_)
    (simp (disch := first | decide | omega | (simp only [nx]; first | done | omega)) only [go_sem]; (repeat with_reducible refine aI ?_))
    have hS2 := ((hS.add (.box 29 (encV v).cells)).add (.box 29 [.v (.int .i64 0), .v (.int .i64 0), .v (.string ⟨#[]⟩), .sl .full [], .sl .full [], .sl .full []]))
    refine (hv _ v (by (repeat' first | assumption | exact St.Sub.refl _ | exact RowOk.sub (by assumption) (by assumption) | refine St.Sub.trans ?_ (RowOk.sub (by assumption) (by assumption)) | refine St.Sub.add ?_ ?_ _ | refine St.Sub.set ?_ ?_ ?_ _ | refine St.Sub.keep ?_ ?_ | refine St.WF.leave ?_ _ | refine St.WF.add ?_ _ | refine St.WF.set ?_ ?_ _ | refine St.WF.grow ?_ _ _ _ | refine St.WF.keep ?_ ?_ | (first | omega | (simp only [RowOk.lo, nx]; first | done | omega)))) (by (repeat' first | assumption | refine St.WF.leave ?_ _ | refine St.WF.add ?_ _ | refine St.WF.set ?_ ?_ _ | refine St.WF.grow ?_ _ _ _ | refine St.WF.keep ?_ ?_ | (first | omega | (simp only [RowOk.lo, nx]; first | done | omega)))) hw hok).mono ?_
    rintro d T ⟨rfl, hA, hT⟩
    have u3 := hA.fr.ob (S.next + 1) _ (by omega) (by (first | (simp (disch := first | decide | omega | (simp only [nx]; first | done | omega)) only [go_sem]; first | done | rfl) | rfl))
    have hn := hA.fr.next
    simp only [add_next] at hn
    (simp (disch := first | decide | omega | (simp only [nx]; first | done | omega)) only [go_sem, u3]; (repeat with_reducible refine aI ?_))
    refine ⟨rfl, ⟨?_, fun h => (by cases h), fun u hu => ?_⟩, hT.set (by omega) _⟩
    · exact (((((Fz.refl _ S).add hS).add hS).trans hA.fr).set hS (.inr (by omega)))
    · injection hu with hu
      subst hu
      obtain ⟨n, hn1, hn2⟩ := hA.post _ rfl
      simp only [add_next] at hn1
      exact ⟨n, by omega, hP _ _ _ _ hn2 ((Fz.refl _ T).set hT (.inl (by omega)))⟩
  | cons p ps ih =>
    intro own v S hok hw hl hcS hv
    refine DCalls.thaw ?_
    refine dcalls_inline mixed Tryz.func146 rfl (fun _ _ => by kernel_rfl) (rs := [.cell 6 29, .tmp 7]) rfl (by kernel_rfl) (fun hS => ?_)
    have b0 : (((ps.length + 1 : Nat) : Int) == 0) = false := by simp; omega
    (simp (disch := first | decide | omega | (simp only [nx]; first | done | omega)) only [go_sem, b0]; (repeat with_reducible refine aI ?_))
    refine ddraw_mk 10 (by kernel_rfl) ?_
    (simp (disch := first | decide | omega | (simp only [nx]; first | done | omega)) only [go_sem]; (repeat with_reducible refine aI ?_))
    refine dqgo_mk (part_d v p hok hw) ?_
    by_cases hin : inP v p
    · have e1 : (decide (0 ≤ placeOf v p) && decide (placeOf v p < (v.parts.length : Int))) = true := by rw [decide_eq_true hin.1, decide_eq_true hin.2]; rfl
      have hpl : (placeOf v p).toNat < v.parts.length := by have := hin.1; have := hin.2; omega
      have hx := getD_map encV v.parts _ hpl
      have cv : (encV v).cells = [.v (.int .i64 v.kind), .v (.int .i64 v.n), strD v.s, .sl .no (v.names.map strD), .sl .no (v.ids.map u64D), .sl .no (v.parts.map encV)] := by rw [encV_eq]; rfl
      obtain ⟨o1, o2, o3, o4, o5, o6, o7, o8, o9⟩ := (okV_eq v).1 hok
      have hgd : v.parts.getD (plN v p) default = v.parts[(placeOf v p).toNat] := getD_at hpl
      have hget : getV (p :: ps) v = getV ps v.parts[(placeOf v p).toNat] := by rw [getV_cons, if_pos hin, hgd]
      have hch : chV fV (p :: ps) v = v.withParts (v.parts.set (placeOf v p).toNat (chV fV ps v.parts[(placeOf v p).toNat])) := by rw [chV, if_pos hin, hgd]; rfl
      have hxo : okV v.parts[(placeOf v p).toNat] := o9 _ (List.getElem_mem hpl)
      have hxw : v.parts[(placeOf v p).toNat].weight ≤ 1000000 := by have := DVal.weight_part (List.getElem_mem hpl); omega
      rw [hget, hch]
      have c1 := hin.1
      have c2 := hin.2
      clear hget hch hgd hin
      have ih' := fun S' (hs : S.Sub S') => ih .no v.parts[(placeOf v p).toNat] S' hxo hxw (by simp only [List.length_cons] at hl; omega) (Nat.lt_of_lt_of_le hcS hs.next) (hv.sub hs)
      clear ih
      generalize v.parts[(placeOf v p).toNat] = x at *
      generalize getV ps x = r at *
      generalize chV fV ps x = y at *
      (simp (disch := first | decide | omega | (simp only [nx]; first | done | omega)) only [go_sem, partV, e1]; (repeat with_reducible refine aI ?_))
      refine ddraw_cut (fun f' T => ∃ n0 Tv, f' 3 = .loc S.next 0 ∧ f' 6 = .loc (S.next + 1) 0 ∧ f' 8 = .v (.int .i64 (placeOf v p)) ∧ f' 9 = .v (.bool r.isSome) ∧ f' 10 = .loc n0 0 ∧
        T.ob S.next = some (.box 29 (encV v).cells) ∧ T.ob (S.next + 1) = some (.box 29 [.v (.int .i64 0), .v (.int .i64 0), .v (.string ⟨#[]⟩), .sl .full [], .sl .full [], .sl .full []]) ∧ T.ob n0 = some (.box 29 (encV y).cells) ∧ S.next + 2 ≤ n0 ∧ n0 < T.next ∧ T.WF ∧
        Fz (· ≠ c) S T ∧ (r = none → Fz (· = c) S T) ∧ Tv.WF ∧ S.next + 2 ≤ Tv.next ∧ (∀ u, r = some u → ∃ n, S.next + 2 ≤ n ∧ Post u n Tv ∧ (n0 < n ∨ Tv.next ≤ n0) ∧ Fz (fun j => j = c ∨ n ≤ j) Tv T)) ?_ ?_
      · have hS2 := (hS.add (.box 29 (encV v).cells)).add (.box 29 [.v (.int .i64 0), .v (.int .i64 0), .v (.string ⟨#[]⟩), .sl .full [], .sl .full [], .sl .full []])
        refine ddraw_any (fun S' => S'.ob S.next = some (.box 29 (encV v).cells)) 15 (by (first | (simp (disch := first | decide | omega | (simp only [nx]; first | done | omega)) only [go_sem]; first | done | rfl) | rfl)) (by kernel_rfl) ?_
        (refine s_take 0 rfl (by kernel_rfl) (by kernel_rfl) (v := .loc S.next 5) (fun S' hz => dquietR_of (by (simp (disch := first | decide | omega | (simp only [nx]; first | done | omega)) only [go_sem]; (repeat with_reducible refine aI ?_)); first | done | rfl | omega)) ?_)
        (refine s_take 1 rfl (by kernel_rfl) (by kernel_rfl) (v := .sl .no (v.parts.map encV)) (fun S' hz => dquietR_of (by (simp (disch := first | decide | omega | (simp only [nx]; first | done | omega)) only [go_sem, hz, cv]; (repeat with_reducible refine aI ?_)); first | done | rfl | omega)) ?_)
        (refine s_take 2 rfl (by kernel_rfl) (by kernel_rfl) (v := .v (.int .i64 (placeOf v p))) (fun S' hz => dquietR_of (by (simp (disch := first | decide | omega | (simp only [nx]; first | done | omega)) only [go_sem]; (repeat with_reducible refine aI ?_)); first | done | rfl | omega)) ?_)
        (refine s_take 3 rfl (by kernel_rfl) (by kernel_rfl) (v := .rd (encV x).cells 0) (fun S' hz => dquietR_of (by (simp (disch := first | decide | omega | (simp only [nx]; first | done | omega)) only [go_sem, hx, c1, c2]; (repeat with_reducible refine aI ?_)); first | done | rfl | omega)) ?_)
        (refine s_take 4 rfl (by kernel_rfl) (by kernel_rfl) (v := encV x) (fun S' hz => dquietR_of (by (simp (disch := first | decide | omega | (simp only [nx]; first | done | omega)) only [go_sem]; (repeat with_reducible refine aI ?_)); first | done | rfl | omega)) ?_)
        (refine s_take 5 rfl (by kernel_rfl) (by kernel_rfl) (v := .sl own ((p :: ps).map encP)) (fun S' hz => dquietR_of (by (simp (disch := first | decide | omega | (simp only [nx]; first | done | omega)) only [go_sem]; (repeat with_reducible refine aI ?_)); first | done | rfl | omega)) ?_)
        (refine s_take 6 rfl (by kernel_rfl) (by kernel_rfl) (v := .sl .no (ps.map encP)) (fun S' hz => dquietR_of (by (simp (disch := first | decide | omega | (simp only [nx]; first | done | omega)) only [go_sem, Nat.reduceSub, List.drop_one, List.tail_cons]; (repeat with_reducible refine aI ?_)); first | done | rfl | omega)) ?_)
        (refine s_take 7 rfl (by kernel_rfl) (by kernel_rfl) (v := .fn (.func g) fs cs) (fun S' hz => dquietR_of (by (simp (disch := first | decide | omega | (simp only [nx]; first | done | omega)) only [go_sem]; (repeat with_reducible refine aI ?_)); first | done | rfl | omega)) ?_)
        refine s_split [8, 12] (by kernel_rfl) (by simp) ?_
        intro i hi
        simp only [List.mem_cons, List.not_mem_nil, or_false] at hi
        rcases hi with rfl | rfl
        · refine s_op rfl ?_
          (simp (disch := first | decide | omega | (simp only [nx]; first | done | omega)) only [go_sem]; (repeat with_reducible refine aI ?_))
          refine (ih' _ (by (repeat' first | assumption | exact St.Sub.refl _ | exact RowOk.sub (by assumption) (by assumption) | refine St.Sub.trans ?_ (RowOk.sub (by assumption) (by assumption)) | refine St.Sub.add ?_ ?_ _ | refine St.Sub.set ?_ ?_ ?_ _ | refine St.Sub.keep ?_ ?_ | refine St.WF.leave ?_ _ | refine St.WF.add ?_ _ | refine St.WF.set ?_ ?_ _ | refine St.WF.grow ?_ _ _ _ | refine St.WF.keep ?_ ?_ | (first | omega | (simp only [RowOk.lo, nx]; first | done | omega))))).mono ?_
          rintro d T ⟨rfl, hA, hT⟩
          have hn := hA.fr.next
          simp only [add_next] at hn
          have u2 := hA.fr.ob S.next _ (by omega) (by (first | (simp (disch := first | decide | omega | (simp only [nx]; first | done | omega)) only [go_sem]; first | done | rfl) | rfl))
          have u3 := hA.fr.ob (S.next + 1) _ (by omega) (by (first | (simp (disch := first | decide | omega | (simp only [nx]; first | done | omega)) only [go_sem]; first | done | rfl) | rfl))
          refine ⟨u2, ?_⟩
          (refine s_take 9 rfl (by kernel_rfl) (by kernel_rfl) (v := .tup [encV y, .v (.bool r.isSome)]) (fun S' hz => dquietR_of (by (simp (disch := first | decide | omega | (simp only [nx]; first | done | omega)) only [go_sem]; (repeat with_reducible refine aI ?_)); first | done | rfl | omega)) ?_)
          (refine s_take 10 rfl (by kernel_rfl) (by kernel_rfl) (v := encV y) (fun S' hz => dquietR_of (by (simp (disch := first | decide | omega | (simp only [nx]; first | done | omega)) only [go_sem]; (repeat with_reducible refine aI ?_)); first | done | rfl | omega)) ?_)
          (refine s_take 11 rfl (by kernel_rfl) (by kernel_rfl) (v := .v (.bool r.isSome)) (fun S' hz => dquietR_of (by (simp (disch := first | decide | omega | (simp only [nx]; first | done | omega)) only [go_sem]; (repeat with_reducible refine aI ?_)); first | done | rfl | omega)) ?_)
          refine s_split [12] (by kernel_rfl) (by simp) ?_
          intro i hi
          obtain rfl : i = 12 := by simpa using hi
          refine s_op rfl ?_
          have e2 : S.next ≠ T.next := by omega
          have e3 : S.next + 1 ≠ T.next := by omega
          (simp (disch := first | decide | omega | (simp only [nx]; first | done | omega)) only [go_sem, u2, u3, e2, e3]; (repeat with_reducible refine aI ?_))
          refine s_split [13] (by kernel_rfl) (by simp) ?_
          intro i hi
          obtain rfl : i = 13 := by simpa using hi
          refine s_op rfl ?_
          (simp (disch := first | decide | omega | (simp only [nx]; first | done | omega)) only [go_sem, u2, u3, e2, e3]; (repeat with_reducible refine aI ?_))
          (refine s_take 14 rfl (by kernel_rfl) (by kernel_rfl) (v := .v (.bool r.isSome)) (fun S' hz => dquietR_of (by (simp (disch := first | decide | omega | (simp only [nx]; first | done | omega)) only [go_sem]; (repeat with_reducible refine aI ?_)); first | done | rfl | omega)) ?_)
          refine s_done (by kernel_rfl) ?_
          (simp (disch := first | decide | omega | (simp only [nx]; first | done | omega)) only [go_sem, u2, u3, e2, e3]; (repeat with_reducible refine aI ?_))
          refine ⟨T.next, T, rfl, by (first | (simp (disch := first | decide | omega | (simp only [nx]; first | done | omega)) only [go_sem]; first | done | rfl) | rfl), by omega, by omega, (hT.add _).set (by show T.next < T.next + 1; omega) _, ?_, fun hr => ?_, hT, by omega, fun u hu => ?_⟩
          · exact (((((Fz.refl _ S).add hS).add hS).trans hA.fr).add hS).set hS (.inr (by omega))
          · exact (((((Fz.refl _ S).add hS).add hS).trans (hA.cob hr)).add hS).set hS (.inr (by omega))
          · obtain ⟨n, hn1, hn2⟩ := hA.post u hu
            simp only [add_next] at hn1
            exact ⟨n, by omega, hn2, .inr (Nat.le_refl _), ((Fz.refl _ T).add hT).set hT (.inr (Nat.le_refl _))⟩
        · refine s_op rfl ?_
          (simp (disch := first | decide | omega | (simp only [nx]; first | done | omega)) only [go_sem]; (repeat with_reducible refine aI ?_))
          refine s_split [8] (by kernel_rfl) (by simp) ?_
          intro i hi
          obtain rfl : i = 8 := by simpa using hi
          refine s_op rfl ?_
          (simp (disch := first | decide | omega | (simp only [nx]; first | done | omega)) only [go_sem]; (repeat with_reducible refine aI ?_))
          refine (ih' _ (by (repeat' first | assumption | exact St.Sub.refl _ | exact RowOk.sub (by assumption) (by assumption) | refine St.Sub.trans ?_ (RowOk.sub (by assumption) (by assumption)) | refine St.Sub.add ?_ ?_ _ | refine St.Sub.set ?_ ?_ ?_ _ | refine St.Sub.keep ?_ ?_ | refine St.WF.leave ?_ _ | refine St.WF.add ?_ _ | refine St.WF.set ?_ ?_ _ | refine St.WF.grow ?_ _ _ _ | refine St.WF.keep ?_ ?_ | (first | omega | (simp only [RowOk.lo, nx]; first | done | omega))))).mono ?_
          rintro d T ⟨rfl, hA, hT⟩
          have hn := hA.fr.next
          simp only [add_next] at hn
          have u2 := hA.fr.ob S.next _ (by omega) (by (first | (simp (disch := first | decide | omega | (simp only [nx]; first | done | omega)) only [go_sem]; first | done | rfl) | rfl))
          have u3 := hA.fr.ob (S.next + 1) _ (by omega) (by (first | (simp (disch := first | decide | omega | (simp only [nx]; first | done | omega)) only [go_sem]; first | done | rfl) | rfl))
          have u4 := hA.fr.ob (S.next + 1 + 1) _ (by omega) (by (first | (simp (disch := first | decide | omega | (simp only [nx]; first | done | omega)) only [go_sem]; first | done | rfl) | rfl))
          refine ⟨u2, ?_⟩
          (refine s_take 9 rfl (by kernel_rfl) (by kernel_rfl) (v := .tup [encV y, .v (.bool r.isSome)]) (fun S' hz => dquietR_of (by (simp (disch := first | decide | omega | (simp only [nx]; first | done | omega)) only [go_sem]; (repeat with_reducible refine aI ?_)); first | done | rfl | omega)) ?_)
          (refine s_take 10 rfl (by kernel_rfl) (by kernel_rfl) (v := encV y) (fun S' hz => dquietR_of (by (simp (disch := first | decide | omega | (simp only [nx]; first | done | omega)) only [go_sem]; (repeat with_reducible refine aI ?_)); first | done | rfl | omega)) ?_)
          (refine s_take 11 rfl (by kernel_rfl) (by kernel_rfl) (v := .v (.bool r.isSome)) (fun S' hz => dquietR_of (by (simp (disch := first | decide | omega | (simp only [nx]; first | done | omega)) only [go_sem]; (repeat with_reducible refine aI ?_)); first | done | rfl | omega)) ?_)
          refine s_split [13] (by kernel_rfl) (by simp) ?_
          intro i hi
          obtain rfl : i = 13 := by simpa using hi
          refine s_op rfl ?_
          (simp (disch := first | decide | omega | (simp only [nx]; first | done | omega)) only [go_sem, u2, u3, u4]; (repeat with_reducible refine aI ?_))
          (refine s_take 14 rfl (by kernel_rfl) (by kernel_rfl) (v := .v (.bool r.isSome)) (fun S' hz => dquietR_of (by (simp (disch := first | decide | omega | (simp only [nx]; first | done | omega)) only [go_sem]; (repeat with_reducible refine aI ?_)); first | done | rfl | omega)) ?_)
          refine s_done (by kernel_rfl) ?_
          (simp (disch := first | decide | omega | (simp only [nx]; first | done | omega)) only [go_sem, u2, u3, u4]; (repeat with_reducible refine aI ?_))
          refine ⟨S.next + 1 + 1, T, rfl, by (first | (simp (disch := first | decide | omega | (simp only [nx]; first | done | omega)) only [go_sem]; first | done | rfl) | rfl), by omega, by omega, hT.set (by omega) _, ?_, fun hr => ?_, hT, by omega, fun u hu => ?_⟩
          · exact (((((Fz.refl _ S).add hS).add hS).add hS).trans hA.fr).set hS (.inr (by omega))
          · exact (((((Fz.refl _ S).add hS).add hS).add hS).trans (hA.cob hr)).set hS (.inr (by omega))
          · obtain ⟨n, hn1, hn2⟩ := hA.post u hu
            simp only [add_next] at hn1
            exact ⟨n, by omega, hn2, .inl (by omega), (Fz.refl _ T).set hT (.inl (by omega))⟩
      · rintro f' T ⟨n0, Tv, q3, q6, q8, q9, q10, t0, t1, t2, n1, n2, hT, hF, hFc, hTv, hnv, hpo⟩
        (simp (disch := first | decide | omega | (simp only [nx]; first | done | omega)) only [go_sem, q3, q6, q8, q9, q10, t0, t1, t2, cv]; (repeat with_reducible refine aI ?_))
        have hpos : 0 < v.parts.length := by omega
        have hpl0 := partsLen v
        have hwe := v.weight_eq
        refine dapp_win rfl ⟨rfl, rfl, by simpa using hpos, rfl, by (first | (simp (disch := first | decide | omega | (simp only [nx]; first | done | omega)) only [go_sem]; first | done | rfl) | rfl), by (first | (simp (disch := first | decide | omega | (simp only [nx]; first | done | omega)) only [go_sem]; first | done | rfl) | rfl), (fun d hd => by obtain ⟨u, _, rfl⟩ := List.mem_map.1 hd; exact cells_encV u), by rw [List.length_map]; omega, by simp (disch := first | decide | omega | (simp only [nx]; first | done | omega)) only [go_sem]; omega, fun cw zs _ _ => ?_⟩
        (simp (disch := first | decide | omega | (simp only [nx]; first | done | omega)) only [go_sem, q3, q6, q8, q9, q10, t0, t1, t2, cv]; (repeat with_reducible refine aI ?_))
        have hwid : ∀ d ∈ List.map encV v.parts, d.width = 6 := fun d hd => by obtain ⟨u, _, rfl⟩ := List.mem_map.1 hd; exact cells_encV u
        have hlen : (placeOf v p).toNat < (List.map encV v.parts).length := by rw [List.length_map]; omega
        refine ⟨by rw [List.length_append, dflat_length hwid]; simp; omega, ?_⟩
        rw [splice_flat' hlen hwid (cells_encV y)]
        have hwid2 : ∀ d ∈ (List.map encV v.parts).set (placeOf v p).toNat (encV y), d.width = szOf Tryz.prog 29 := fun d hd => by
          simp (disch := first | decide | omega | (simp only [nx]; first | done | omega)) only [go_sem]
          rcases List.mem_or_eq_of_mem_set hd with hd | rfl
          · exact hwid d hd
          · exact cells_encV y
        refine ⟨_, _, thaw_win (k := T.next) (zs := zs) (by (first | (simp (disch := first | decide | omega | (simp only [nx]; first | done | omega)) only [go_sem]; first | done | rfl) | rfl)) (by simp (disch := first | decide | omega | (simp only [nx]; first | done | omega)) only [go_sem]) hwid2 rfl, ?_⟩
        have hTn := hF.next
        refine ⟨?_, ⟨?_, fun hr => ?_, fun u hu => ?_⟩, ?_⟩
        · simp only [D.thaw, thawL, List.length_set, List.length_map, Nat.beq_refl, Bool.and_self, cond_true]
          rw [encV_eq (v.withParts _), ← List.map_set]
          rfl
        · exact ((((hF.add hS).set hS (.inr (Nat.le_refl _))).set hS (.inr (by omega))).set hS (.inr (by omega))).drop hS (.inr (by omega))
        · exact (((((hFc hr).add hS).set hS (.inr (Nat.le_refl _))).set hS (.inr (by omega))).set hS (.inr (by omega))).drop hS (.inr (by omega))
        · obtain ⟨n, hn1, hn2, hn3, hn4⟩ := hpo u hu
          have hvn := hn4.next
          refine ⟨n, by omega, hP _ _ _ _ hn2 ?_⟩
          exact ((((hn4.add hTv).set hTv (.inl (by omega))).set hTv (.inr (by omega))).set hTv (.inl (by omega))).drop hTv (.inr (by omega))
        · exact ((((hT.add _).set (by show S.next < T.next + 1; omega) _).set (by show T.next < T.next + 1; omega) _).set (by show S.next + 1 < T.next + 1; omega) _).drop _
    · have e1 : (decide (0 ≤ placeOf v p) && decide (placeOf v p < (v.parts.length : Int))) = false := by
        cases h : (decide (0 ≤ placeOf v p) && decide (placeOf v p < (v.parts.length : Int))) with
        | false => rfl
        | true => rw [Bool.and_eq_true, decide_eq_true_eq, decide_eq_true_eq] at h; exact absurd h hin
      have hg : getV (p :: ps) v = none := by rw [getV_cons, if_neg hin]
      have hc : chV fV (p :: ps) v = v := by rw [chV, if_neg hin]
      (simp (disch := first | decide | omega | (simp only [nx]; first | done | omega)) only [go_sem, partV, e1]; (repeat with_reducible refine aI ?_))
      rw [hg, hc]
      refine ⟨_, _, Thaw.refl _ _ _, rfl, ⟨?_, fun hr => ?_, fun u hu => (by cases hu)⟩, ?_⟩
      · exact (((Fz.refl _ S).add hS).add hS).set hS (.inr (by omega))
      · exact (((Fz.refl _ S).add hS).add hS).set hS (.inr (by omega))
      · exact (by (repeat' first | assumption | refine St.WF.leave ?_ _ | refine St.WF.add ?_ _ | refine St.WF.set ?_ ?_ _ | refine St.WF.grow ?_ _ _ _ | refine St.WF.keep ?_ ?_ | (first | omega | (simp only [RowOk.lo, nx]; first | done | omega))))
end Go.Proofs.YtjjhjhjphhpeiaaGreatDoor

namespace Go.Proofs.YtjjhjhjphhpeiaaGreatDoor
open Go.RowKit
theorem okCell_ownV (v : DVal) (a b c ca cb cc : Nat) : (ownV v a b c ca cb cc).okCell = true := Eq.trans (Eq.refl _) (Eq.refl _)
theorem len_ownV (v : DVal) (a b c ca cb cc : Nat) : (ownV v a b c ca cb cc).cells.length = 6 := Eq.trans (Eq.refl _) (Eq.refl _)
theorem take_ownV (v : DVal) (a b c ca cb cc : Nat) : (ownV v a b c ca cb cc).cells.take 6 = (ownV v a b c ca cb cc).cells := Eq.trans (Eq.refl _) (Eq.refl _)
theorem agg_ownV (v : DVal) (a b c ca cb cc : Nat) : D.agg (ownV v a b c ca cb cc).cells = ownV v a b c ca cb cc := Eq.trans (Eq.refl _) (Eq.refl _)
theorem drop_ownV (v : DVal) (a b c ca cb cc : Nat) : (ownV v a b c ca cb cc).cells.drop 6 = [] := Eq.trans (Eq.refl _) (Eq.refl _)
attribute [go_sem] drop_ownV List.append_nil
attribute [go_sem] okCell_ownV len_ownV take_ownV agg_ownV
theorem gdO0 (v : DVal) (a b c ca cb cc : Nat) : (ownV v a b c ca cb cc).cells.getD 0 undefD = .v (.int .i64 v.kind) := Eq.trans (Eq.refl _) (Eq.refl _)
theorem gdO3 (v : DVal) (a b c ca cb cc : Nat) : (ownV v a b c ca cb cc).cells.getD 3 undefD = .win a 0 v.names.length ca := Eq.trans (Eq.refl _) (Eq.refl _)
theorem gdO4 (v : DVal) (a b c ca cb cc : Nat) : (ownV v a b c ca cb cc).cells.getD 4 undefD = .win b 0 v.ids.length cb := Eq.trans (Eq.refl _) (Eq.refl _)
theorem gdO5 (v : DVal) (a b c ca cb cc : Nat) : (ownV v a b c ca cb cc).cells.getD 5 undefD = .win c 0 v.parts.length cc := Eq.trans (Eq.refl _) (Eq.refl _)
attribute [go_sem] gdO0 gdO3 gdO4 gdO5
def OwnAtV (c : Nat) (u : DVal) (n : Nat) (T : St) : Prop := ∃ i j k ci cj ck zi zj zk, T.ob c = some (.box 29 (ownV u i j k ci cj ck).cells) ∧ n ≤ i ∧ n ≤ j ∧ n ≤ k ∧ OV T u i j k ci cj ck zi zj zk
theorem ownAtV_mono (c : Nat) : Mono c (OwnAtV c) := fun u n T T' h hz => by
  obtain ⟨i, j, k, ci, cj, ck, zi, zj, zk, h1, h2, h3, h4, h5⟩ := h
  exact ⟨i, j, k, ci, cj, ck, zi, zj, zk, hz.ob _ _ (.inl rfl) h1, h2, h3, h4, ⟨hz.ob _ _ (.inr h2) h5.obn, h5.ln, hz.ob _ _ (.inr h3) h5.obi, h5.li, hz.ob _ _ (.inr h4) h5.obp, h5.lp, h5.ab, h5.ac, h5.bc⟩⟩
set_option maxRecDepth 200000 in
set_option maxHeartbeats 4000000 in
theorem get1_o (S : St) (c : Nat) (cs : List D) (hc : S.ob c = some (.box 29 cs)) (hl : cs.length = 6) (u : DVal) (hw : u.weight ≤ 1000000) :
    DCalls Tryz.prog 147 [encV u, .loc c 0] S (fun d T => d = encV u ∧ Aft c (OwnAtV c) (some u) S T ∧ T.WF) := by
  refine dcalls_inline mixed Tryz.func147 rfl (fun _ _ => by kernel_rfl) (rs := [.cell 3 29]) rfl (by kernel_rfl) (fun hS => ?_)
  have hlt := hS.lt hc
  have e1 : c ≠ S.next := by omega
  have e2 : c ≠ S.next + 1 := by omega
  have hd : cs.drop 6 = [] := List.drop_of_length_le (by omega)
  (simp (disch := first | decide | omega | (simp only [nx]; first | done | omega)) only [go_sem]; (repeat with_reducible refine aI ?_))
  refine copy_o u hw fun T a b k ca cb ck zn zi zp hs hT ha hb hk hO => ?_
  have hsn := hs.next
  simp only [add_next] at hsn ha hb hk
  have u2 := hs.ob S.next _ (by (first | (simp (disch := first | decide | omega | (simp only [nx]; first | done | omega)) only [go_sem]; first | done | rfl) | rfl))
  have u3 := hs.ob (S.next + 1) _ (by (first | (simp (disch := first | decide | omega | (simp only [nx]; first | done | omega)) only [go_sem]; first | done | rfl) | rfl))
  have uc := hs.ob c _ (by (first | (simp (disch := first | decide | omega | (simp only [nx]; first | done | omega)) only [go_sem, hc, e1, e2]; first | done | rfl) | rfl))
  (simp (disch := first | decide | omega | (simp only [nx]; first | done | omega)) only [go_sem, u2, u3, uc, hl, hd, e1, e2]; (repeat with_reducible refine aI ?_))
  refine ⟨⟨?_, fun h => (by cases h), fun u' hu => ?_⟩, ?_⟩
  · exact ((((Fz.refl _ S).add hS).add hS).trans (Fz.sub hs)).set hS (.inl (fun h => h rfl)) |>.set hS (.inr (by omega))
  · injection hu with hu
    subst hu
    refine ⟨S.next + 2, by omega, a, b, k, ca, cb, ck, zn, zi, zp, ?_, ha, hb, hk, ⟨?_, hO.ln, ?_, hO.li, ?_, hO.lp, hO.ab, hO.ac, hO.bc⟩⟩
    · (first | (simp (disch := first | decide | omega | (simp only [nx]; first | done | omega)) only [go_sem, e1, e2]; first | done | rfl) | rfl)
    · have n1 : a ≠ c := by omega
      have n2 : a ≠ S.next + 1 := by omega
      (first | (simp (disch := first | decide | omega | (simp only [nx]; first | done | omega)) only [go_sem, hO.obn, n1, n2]; first | done | rfl) | rfl)
    · have n1 : b ≠ c := by omega
      have n2 : b ≠ S.next + 1 := by omega
      (first | (simp (disch := first | decide | omega | (simp only [nx]; first | done | omega)) only [go_sem, hO.obi, n1, n2]; first | done | rfl) | rfl)
    · have n1 : k ≠ c := by omega
      have n2 : k ≠ S.next + 1 := by omega
      (first | (simp (disch := first | decide | omega | (simp only [nx]; first | done | omega)) only [go_sem, hO.obp, n1, n2]; first | done | rfl) | rfl)
  · exact (hT.set (by omega) _).set (by show S.next + 1 < T.next; omega) _
theorem Fz.full {c : Nat} {S T : St} (h : Fz (· ≠ c) S T) (hS : S.WF) (hc : S.next ≤ c) : Fz (fun _ => True) S T := ⟨h.next, fun j o _ e => h.ob j o (by have := hS.lt e; omega) e⟩
def zCells : List D := [.v (.int .i64 0), .v (.int .i64 0), .v (.string ⟨#[]⟩), .sl .full [], .sl .full [], .sl .full []]
set_option maxRecDepth 200000 in
set_option maxHeartbeats 4000000 in
theorem get_o (v : DVal) (ps : List DStp) (own : Own) (hok : okV v) (hw : v.weight ≤ 1000000) (hl : ps.length ≤ 1000000) {S : St} {K : D → St → Prop}
    (h0 : ∀ T, getV ps v = none → Fz (fun _ => True) S T → T.WF → K (.tup [.agg zCells, .v (.bool false)]) T)
    (h1 : ∀ T u a b c ca cb cc zn zi zp, getV ps v = some u → Fz (fun _ => True) S T → T.WF → S.next ≤ a → S.next ≤ b → S.next ≤ c → OV T u a b c ca cb cc zn zi zp → K (.tup [ownV u a b c ca cb cc, .v (.bool true)]) T) :
    DCalls Tryz.prog 120 [encV v, .sl own (ps.map encP)] S K := by
  refine dcalls_inline mixed Tryz.func120 rfl (fun _ _ => by kernel_rfl) (rs := [.cell 4 29, .tmp 5]) rfl (by kernel_rfl) (fun hS => ?_)
  (simp (disch := first | decide | omega | (simp only [nx]; first | done | omega)) only [go_sem]; (repeat with_reducible refine aI ?_))
  refine (change_o 147 [] [.loc (S.next + 1 + 1) 0] id (S.next + 1 + 1) (OwnAtV (S.next + 1 + 1)) (ownAtV_mono _) ps own v _ hok hw hl (by show _ < S.next + 1 + 1 + 1; omega) ?_).mono ?_
  · intro S' u hs hS' hu _
    exact get1_o S' _ _ (hs.ob _ _ (by (first | (simp (disch := first | decide | omega | (simp only [nx]; first | done | omega)) only [go_sem]; first | done | rfl) | rfl))) rfl u hu
  · rintro d T ⟨rfl, hA, hT⟩
    have hn := hA.fr.next
    simp only [add_next] at hn
    have u3 := hA.fr.ob (S.next + 1) _ (by omega) (by (first | (simp (disch := first | decide | omega | (simp only [nx]; first | done | omega)) only [go_sem]; first | done | rfl) | rfl))
    cases hg : getV ps v with
    | none =>
      rw [hg] at hA
      have u4 := (hA.cob rfl).ob (S.next + 1 + 1) _ rfl (by (first | (simp (disch := first | decide | omega | (simp only [nx]; first | done | omega)) only [go_sem]; first | done | rfl) | rfl))
      have e3 : S.next + 1 ≠ T.next := by omega
      have e4 : S.next + 1 + 1 ≠ T.next := by omega
      (simp (disch := first | decide | omega | (simp only [nx]; first | done | omega)) only [go_sem, u3, u4, e3, e4, Option.isSome_none]; (repeat with_reducible refine aI ?_))
      refine h0 _ hg ?_ (((hT.add _).set (by show T.next < T.next + 1; omega) _).set (by show S.next + 1 < T.next + 1; omega) _)
      exact (((((((Fz.refl _ S).add hS).add hS).add hS).trans hA.fr).full hS (by omega)).add hS).set hS (.inr (by omega)) |>.set hS (.inr (by omega))
    | some u =>
      rw [hg] at hA
      obtain ⟨n, hn1, i, j, k, ci, cj, ck, zi, zj, zk, o1, o2, o3, o4, hO⟩ := hA.post u rfl
      simp only [add_next] at hn1
      have e3 : S.next + 1 ≠ T.next := by omega
      have e4 : S.next + 1 + 1 ≠ T.next := by omega
      (simp (disch := first | decide | omega | (simp only [nx]; first | done | omega)) only [go_sem, u3, o1, e3, e4, Option.isSome_some]; (repeat with_reducible refine aI ?_))
      have l1 := hT.lt hO.obn
      have l2 := hT.lt hO.obi
      have l3 := hT.lt hO.obp
      refine h1 _ u i j k ci cj ck zi zj zk hg ?_ (((hT.add _).set (by show T.next < T.next + 1; omega) _).set (by show S.next + 1 < T.next + 1; omega) _) (by omega) (by omega) (by omega) ⟨?_, hO.ln, ?_, hO.li, ?_, hO.lp, hO.ab, hO.ac, hO.bc⟩
      · exact (((((((Fz.refl _ S).add hS).add hS).add hS).trans hA.fr).full hS (by omega)).add hS).set hS (.inr (by omega)) |>.set hS (.inr (by omega))
      · have n1 : i ≠ S.next + 1 := by omega
        have n2 : i ≠ T.next := by omega
        (first | (simp (disch := first | decide | omega | (simp only [nx]; first | done | omega)) only [go_sem, hO.obn, n1, n2]; first | done | rfl) | rfl)
      · have n1 : j ≠ S.next + 1 := by omega
        have n2 : j ≠ T.next := by omega
        (first | (simp (disch := first | decide | omega | (simp only [nx]; first | done | omega)) only [go_sem, hO.obi, n1, n2]; first | done | rfl) | rfl)
      · have n1 : k ≠ S.next + 1 := by omega
        have n2 : k ≠ T.next := by omega
        (first | (simp (disch := first | decide | omega | (simp only [nx]; first | done | omega)) only [go_sem, hO.obp, n1, n2]; first | done | rfl) | rfl)
end Go.Proofs.YtjjhjhjphhpeiaaGreatDoor

namespace Go.Proofs.YtjjhjhjphhpeiaaGreatDoor
open Go.RowKit
set_option maxHeartbeats 4000000 in
set_option maxRecDepth 20000 in
theorem del_u64 {S : St} {k c i n : Nat} {es zs : List D} {K : D → St → Prop} (hk : S.ob k = some (ownOb 42 es zs c)) (hl : (flat es ++ zs).length = c * 1) (hw : ∀ d ∈ es, d.width = 1) (hi : i < es.length) (hn : es.length ≤ 1073741824) (hnn : n = es.length)
    (h : ∀ zs' : List D, (flat (es.take i ++ es.drop (i + 1)) ++ zs').length = c * 1 → K (.win k 0 (n - 1) c) (S.set k (ownOb 42 (es.take i ++ es.drop (i + 1)) zs' c))) :
    DCalls Tryz.prog 111 [.win k 0 n c, .v (.int .i64 i), .v (.int .i64 (i + 1 : Nat))] S K := by
  subst hnn
  have hc := ownOb_len hw (by omega) hl
  have heT : elT Tryz.prog 26 = some 42 := by kernel_rfl
  have heS : (elT Tryz.prog 26).isSome = true := by rw [heT]; rfl
  have hsz : szOf Tryz.prog 42 = 1 := by kernel_rfl
  have hby : bytesOf Tryz.prog 42 = 8 := by kernel_rfl
  have hzT : zeroT Tryz.prog 42 = true := by kernel_rfl
  have hzO : zeroOk Tryz.prog 42 = true := by kernel_rfl
  have hiS := (zeroT_pos hzT).2
  have hk0 := hk
  rw [ownOb_box (by omega)] at hk
  refine dcalls_inline mixed Tryz.func111 rfl (fun _ _ => by kernel_rfl) (rs := [.tmp 6]) rfl (by kernel_rfl) (fun hS => ?_)
  have b1 : ((i : Int) == ((i + 1 : Nat) : Int)) = false := by simp; omega
  (simp (disch := first | decide | omega | (simp only [nx]; first | done | omega)) only [go_sem, b1, winOff_zero]; (repeat with_reducible refine aI ?_))
  refine ddraw_mk 6 (by kernel_rfl) ?_
  (simp (disch := first | decide | omega | (simp only [nx]; first | done | omega)) only [go_sem, b1, winOff_zero]; (repeat with_reducible refine aI ?_))
  have hf1 : (flat (es.take i)).length = i * 1 := by rw [dflat_length fun d hd => hw d (List.mem_of_mem_take hd), List.length_take]; congr 1; omega
  have hf2 : (flat (es.drop (i + 1))).length = (es.length - (i + 1)) * 1 := by rw [dflat_length fun d hd => hw d (List.mem_of_mem_drop hd), List.length_drop]
  have hf3 : flat es = flat (es.take i) ++ flat (es.drop i) := by rw [← flat_append, List.take_append_drop]
  have hs : SrcOk S (szOf Tryz.prog 42) (.win k (winOff c (i + 1) 0 1) (es.length - (i + 1)) (c - (i + 1))) (es.length - (i + 1)) (flat (es.drop (i + 1))) := by
    rw [hsz]
    rcases Nat.lt_or_ge (i + 1) c with h1 | h1
    · rw [winOff_lt h1, Nat.zero_add]
      have := srcOk_own (l := i + 1) (n := es.length - (i + 1)) hk0 hc hw (by omega) (c' := c - (i + 1))
      rwa [List.take_of_length_le (by rw [List.length_drop]; omega)] at this
    · have e0 : es.length - (i + 1) = 0 := by omega
      have e1 : es.drop (i + 1) = [] := List.drop_of_length_le (by omega)
      rw [e0, e1]
      exact ⟨rfl, .inl ⟨rfl, rfl⟩⟩
  have e1 : i + (es.length - (i + 1)) = es.length - 1 := by omega
  have hmul : (es.length - 1) * 1 ≤ c * 1 := Nat.mul_le_mul_right _ (by omega)
  have hmul1 : i * 1 + (es.length - (i + 1)) * 1 = (es.length - 1) * 1 := by rw [← Nat.add_mul, e1]
  have hmul2 : (es.length - 1) * 1 + 1 * 1 = es.length * 1 := by rw [← Nat.add_mul]; congr 1; omega
  have hmul3 : es.length * 1 ≤ c * 1 := Nat.mul_le_mul_right _ hc
  obtain ⟨z1, hz1⟩ : ∃ z1, (flat (es.drop i) ++ zs).drop (flat (es.drop (i + 1))).length = z1 := ⟨_, rfl⟩
  have hl1 : (flat (es.take i ++ es.drop (i + 1)) ++ z1).length = c * 1 := by
    rw [hf3] at hl
    rw [← hz1]
    simp only [flat_append, List.length_append, List.length_drop, hf1, hf2] at hl ⊢
    omega
  refine dappend_in heT heS hiS (m := es.length - (i + 1)) hk hs (by omega) (by omega) (by rw [hsz, e1, hl]; omega) (cs' := flat (es.take i ++ es.drop (i + 1)) ++ z1) (by
    rw [hsz, hf3, List.append_assoc, splice_at (by rw [hf1]; omega), flat_append, hz1]) ?_
  rw [e1]
  have wl : winOff c (es.length - 1) 0 1 = (es.length - 1) * 1 := by rw [winOff_lt (by omega), Nat.zero_add]
  (simp (disch := first | decide | omega | (simp only [nx]; first | done | omega)) only [go_sem, wl]; (repeat with_reducible refine aI ?_))
  have e2 : es.length - (es.length - 1) = 1 := by omega
  have hfl : (flat (es.take i ++ es.drop (i + 1))).length = (es.length - 1) * 1 := by rw [flat_append, List.length_append, hf1, hf2]; omega
  rw [e2]
  refine dclear_win heT hzT hzO (bt := 42) (cs := flat (es.take i ++ es.drop (i + 1)) ++ z1) (by (first | (simp (disch := first | decide | omega | (simp only [nx]; first | done | omega)) only [go_sem]; first | done | rfl) | rfl)) (by rw [hsz, hl1]; omega) fun z2 hz2 => ?_
  rw [hsz] at hz2
  rw [splice_at (by rw [hfl])]
  (simp (disch := first | decide | omega | (simp only [nx]; first | done | omega)) only [go_sem]; (repeat with_reducible refine aI ?_))
  rw [St.set_set, List.append_assoc]
  have := h (z2 ++ z1.drop z2.length) (by
    simp only [List.length_append, List.length_drop] at hl1 ⊢
    omega)
  rw [ownOb_box (by omega)] at this
  exact this

set_option maxHeartbeats 4000000 in
set_option maxRecDepth 20000 in
theorem del_val {S : St} {k c i n : Nat} {es zs : List D} {K : D → St → Prop} (hk : S.ob k = some (ownOb 29 es zs c)) (hl : (flat es ++ zs).length = c * 6) (hw : ∀ d ∈ es, d.width = 6) (hi : i < es.length) (hn : es.length ≤ 1073741824) (hnn : n = es.length)
    (h : ∀ zs' : List D, (flat (es.take i ++ es.drop (i + 1)) ++ zs').length = c * 6 → K (.win k 0 (n - 1) c) (S.set k (ownOb 29 (es.take i ++ es.drop (i + 1)) zs' c))) :
    DCalls Tryz.prog 168 [.win k 0 n c, .v (.int .i64 i), .v (.int .i64 (i + 1 : Nat))] S K := by
  subst hnn
  have hc := ownOb_len hw (by omega) hl
  have heT : elT Tryz.prog 27 = some 29 := by kernel_rfl
  have heS : (elT Tryz.prog 27).isSome = true := by rw [heT]; rfl
  have hsz : szOf Tryz.prog 29 = 6 := by kernel_rfl
  have hby : bytesOf Tryz.prog 29 = 104 := by kernel_rfl
  have hzT : zeroT Tryz.prog 29 = true := by kernel_rfl
  have hzO : zeroOk Tryz.prog 29 = true := by kernel_rfl
  have hiS := (zeroT_pos hzT).2
  have hk0 := hk
  rw [ownOb_box (by omega)] at hk
  refine dcalls_inline mixed Tryz.func168 rfl (fun _ _ => by kernel_rfl) (rs := [.tmp 6]) rfl (by kernel_rfl) (fun hS => ?_)
  have b1 : ((i : Int) == ((i + 1 : Nat) : Int)) = false := by simp; omega
  (simp (disch := first | decide | omega | (simp only [nx]; first | done | omega)) only [go_sem, b1, winOff_zero]; (repeat with_reducible refine aI ?_))
  refine ddraw_mk 6 (by kernel_rfl) ?_
  (simp (disch := first | decide | omega | (simp only [nx]; first | done | omega)) only [go_sem, b1, winOff_zero]; (repeat with_reducible refine aI ?_))
  have hf1 : (flat (es.take i)).length = i * 6 := by rw [dflat_length fun d hd => hw d (List.mem_of_mem_take hd), List.length_take]; congr 1; omega
  have hf2 : (flat (es.drop (i + 1))).length = (es.length - (i + 1)) * 6 := by rw [dflat_length fun d hd => hw d (List.mem_of_mem_drop hd), List.length_drop]
  have hf3 : flat es = flat (es.take i) ++ flat (es.drop i) := by rw [← flat_append, List.take_append_drop]
  have hs : SrcOk S (szOf Tryz.prog 29) (.win k (winOff c (i + 1) 0 6) (es.length - (i + 1)) (c - (i + 1))) (es.length - (i + 1)) (flat (es.drop (i + 1))) := by
    rw [hsz]
    rcases Nat.lt_or_ge (i + 1) c with h1 | h1
    · rw [winOff_lt h1, Nat.zero_add]
      have := srcOk_own (l := i + 1) (n := es.length - (i + 1)) hk0 hc hw (by omega) (c' := c - (i + 1))
      rwa [List.take_of_length_le (by rw [List.length_drop]; omega)] at this
    · have e0 : es.length - (i + 1) = 0 := by omega
      have e1 : es.drop (i + 1) = [] := List.drop_of_length_le (by omega)
      rw [e0, e1]
      exact ⟨rfl, .inl ⟨rfl, rfl⟩⟩
  have e1 : i + (es.length - (i + 1)) = es.length - 1 := by omega
  have hmul : (es.length - 1) * 6 ≤ c * 6 := Nat.mul_le_mul_right _ (by omega)
  have hmul1 : i * 6 + (es.length - (i + 1)) * 6 = (es.length - 1) * 6 := by rw [← Nat.add_mul, e1]
  have hmul2 : (es.length - 1) * 6 + 1 * 6 = es.length * 6 := by rw [← Nat.add_mul]; congr 1; omega
  have hmul3 : es.length * 6 ≤ c * 6 := Nat.mul_le_mul_right _ hc
  obtain ⟨z1, hz1⟩ : ∃ z1, (flat (es.drop i) ++ zs).drop (flat (es.drop (i + 1))).length = z1 := ⟨_, rfl⟩
  have hl1 : (flat (es.take i ++ es.drop (i + 1)) ++ z1).length = c * 6 := by
    rw [hf3] at hl
    rw [← hz1]
    simp only [flat_append, List.length_append, List.length_drop, hf1, hf2] at hl ⊢
    omega
  refine dappend_in heT heS hiS (m := es.length - (i + 1)) hk hs (by omega) (by omega) (by rw [hsz, e1, hl]; omega) (cs' := flat (es.take i ++ es.drop (i + 1)) ++ z1) (by
    rw [hsz, hf3, List.append_assoc, splice_at (by rw [hf1]; omega), flat_append, hz1]) ?_
  rw [e1]
  have wl : winOff c (es.length - 1) 0 6 = (es.length - 1) * 6 := by rw [winOff_lt (by omega), Nat.zero_add]
  (simp (disch := first | decide | omega | (simp only [nx]; first | done | omega)) only [go_sem, wl]; (repeat with_reducible refine aI ?_))
  have e2 : es.length - (es.length - 1) = 1 := by omega
  have hfl : (flat (es.take i ++ es.drop (i + 1))).length = (es.length - 1) * 6 := by rw [flat_append, List.length_append, hf1, hf2]; omega
  rw [e2]
  refine dclear_win heT hzT hzO (bt := 29) (cs := flat (es.take i ++ es.drop (i + 1)) ++ z1) (by (first | (simp (disch := first | decide | omega | (simp only [nx]; first | done | omega)) only [go_sem]; first | done | rfl) | rfl)) (by rw [hsz, hl1]; omega) fun z2 hz2 => ?_
  rw [hsz] at hz2
  rw [splice_at (by rw [hfl])]
  (simp (disch := first | decide | omega | (simp only [nx]; first | done | omega)) only [go_sem]; (repeat with_reducible refine aI ?_))
  rw [St.set_set, List.append_assoc]
  have := h (z2 ++ z1.drop z2.length) (by
    simp only [List.length_append, List.length_drop] at hl1 ⊢
    omega)
  rw [ownOb_box (by omega)] at this
  exact this

set_option maxHeartbeats 4000000 in
set_option maxRecDepth 20000 in
theorem ins_u64 {S : St} {k c i n : Nat} {es zs : List D} {x : D} {o : Own} {K : D → St → Prop} (hk : S.ob k = some (ownOb 42 es zs c)) (hl : (flat es ++ zs).length = c * 1) (hw : ∀ d ∈ es, d.width = 1) (hx : x.width = 1) (hi : i ≤ es.length) (hn : es.length ≤ 1073741824) (hkn : k < S.next) (hnn : n = es.length)
    (h : ∀ (c' : Nat) (zs' : List D), es.length + 1 ≤ c' → (flat (es.take i ++ [x] ++ es.drop i) ++ zs').length = c' * 1 → K (.win S.next 0 (n + 1) c') ((S.drop k).add (ownOb 42 (es.take i ++ [x] ++ es.drop i) zs' c'))) :
    DCalls Tryz.prog 109 [.win k 0 n c, .v (.int .i64 i), .sl o [x]] S K := by
  subst hnn
  have hc := ownOb_len hw (by omega) hl
  have heT : elT Tryz.prog 26 = some 42 := by kernel_rfl
  have heS : (elT Tryz.prog 26).isSome = true := by rw [heT]; rfl
  have hsz : szOf Tryz.prog 42 = 1 := by kernel_rfl
  have hby : bytesOf Tryz.prog 42 = 8 := by kernel_rfl
  have hzT : zeroT Tryz.prog 42 = true := by kernel_rfl
  have hzO : zeroOk Tryz.prog 42 = true := by kernel_rfl
  have hiS := (zeroT_pos hzT).2
  refine DCalls.thaw ?_
  refine dcalls_inline mixed Tryz.func109 rfl (fun _ _ => by kernel_rfl) (rs := [.tmp 6]) rfl (by kernel_rfl) (fun hS => ?_)
  have hwr : IntKind.i64.wrap ((es.length : Int) + ((1 : Nat) : Int)) = ((es.length + 1 : Nat) : Int) := by rw [IntKind.wrap_i64]; omega
  have h10 : (((1 : Nat) : Int) == 0) = false := by decide
  by_cases hin : i = es.length
  · subst hin
    have b1 : ((es.length : Int) == (es.length : Int)) = true := by simp
    (simp (disch := first | decide | omega | (simp only [nx]; first | done | omega)) only [go_sem, hwr, h10, b1]; (repeat with_reducible refine aI ?_))
    refine dappend_own heT heS hzT hzO hk (by rw [hsz]; exact hl) (by rw [hsz]; exact hw) (es2 := [x]) (srcOk_one (by rw [hsz]; exact hx)) rfl (by simp; omega) (by rw [hby]; simp; omega) hkn fun c' zs' h1 h2 => ?_
    (simp (disch := first | decide | omega | (simp only [nx]; first | done | omega)) only [go_sem]; (repeat with_reducible refine aI ?_))
    refine ⟨_, _, Thaw.refl _ _ _, ?_⟩
    have := h c' zs' h1
    rw [List.take_of_length_le (Nat.le_refl _), List.drop_of_length_le (Nat.le_refl _), List.append_nil] at this
    exact this (by rw [hsz] at h2; exact h2)
  · have b1 : ((i : Int) == (es.length : Int)) = false := by simp; omega
    have hcap : 0 < c := by omega
    have hk0 := hk
    rw [ownOb_box hcap] at hk
    by_cases hgr : c < es.length + 1
    · have b2 : decide ((c : Int) < ((es.length + 1 : Nat) : Int)) = true := by simp; omega
      have hwr2 : IntKind.i64.wrap (((es.length + 1 : Nat) : Int) - (i : Int)) = ((es.length + 1 - i : Nat) : Int) := by rw [IntKind.wrap_i64]; omega
      have hwr3 : IntKind.i64.wrap ((i : Int) + ((1 : Nat) : Int)) = ((i + 1 : Nat) : Int) := by rw [IntKind.wrap_i64]; omega
      (simp (disch := first | decide | omega | (simp only [nx]; first | done | omega)) only [go_sem, hwr, h10, b1, b2, hwr2]; (repeat with_reducible refine aI ?_))
      have hso := srcOk_own0 (c' := c) hk0 hc hw hi
      refine dappend_zeros heT (kk := .i64) (by kernel_rfl) hzT hzO hso (by omega) (by omega) (by omega) (by rw [hby]; omega) fun c' zs' h1 h2 => ?_
      have hfx : (flat [x]).length = 1 := by simpa [flat, D.width] using hx
      have hfB : (flat (es.take i)).length = i * 1 := by rw [dflat_length fun d hd => hw d (List.mem_of_mem_take hd), List.length_take]; congr 1; omega
      have hfC : (flat (es.drop i)).length = (es.length - i) * 1 := by rw [dflat_length fun d hd => hw d (List.mem_of_mem_drop hd), List.length_drop]
      rw [hsz] at h2
      (simp (disch := first | decide | omega | (simp only [nx]; first | done | omega)) only [go_sem, winOff_lt]; (repeat with_reducible refine aI ?_))
      have hmin : Nat.min 1 (i + (es.length + 1 - i) - i) = 1 := by show min _ _ = _; omega
      have hzl : 1 ≤ zs'.length := by rw [List.length_append, hfB] at h2; omega
      refine dcopy_win heT hiS (m := 1) (cs := flat (es.take i) ++ zs') (bt := 42) (news := flat [x]) (by (first | (simp (disch := first | decide | omega | (simp only [nx]; first | done | omega)) only [go_sem]; first | done | rfl) | rfl)) (srcOk_one (by rw [hsz]; exact hx)) (by rw [hsz, h2, hmin]; omega) (cs' := flat (es.take i) ++ flat [x] ++ zs'.drop 1) (by rw [hsz, hmin, List.take_of_length_le (l := flat [x]) (by omega), splice_at (by rw [hfB]), hfx]) ?_
      (simp (disch := first | decide | omega | (simp only [nx]; first | done | omega)) only [go_sem, winOff_lt, hwr3]; (repeat with_reducible refine aI ?_))
      refine ddraw_mk 8 (by kernel_rfl) ?_
      (simp (disch := first | decide | omega | (simp only [nx]; first | done | omega)) only [go_sem, winOff_lt, hwr3]; (repeat with_reducible refine aI ?_))
      have hmin2 : Nat.min (es.length - i) (i + (es.length + 1 - i) - (i + 1)) = es.length - i := by show min _ _ = _; omega
      have hso2 := srcOk_own (S := (S.add (.box 42 (flat (es.take i) ++ zs'))).set S.next (.box 42 (flat (es.take i) ++ flat [x] ++ zs'.drop 1))) (l := i) (n := es.length - i) (c' := c - i) (k := k) (c := c) (e := 42) (es := es) (zs := zs) (z := 1) (by (first | (simp (disch := first | decide | omega | (simp only [nx]; first | done | omega)) only [go_sem, hk0]; first | done | rfl) | rfl)) hc hw (by omega)
      rw [List.take_of_length_le (l := es.drop i) (by rw [List.length_drop]; omega)] at hso2
      refine dcopy_win heT hiS (m := es.length - i) (cs := flat (es.take i) ++ flat [x] ++ zs'.drop 1) (bt := 42) (news := flat (es.drop i)) (by (first | (simp (disch := first | decide | omega | (simp only [nx]; first | done | omega)) only [go_sem]; first | done | rfl) | rfl)) (by rw [hsz]; exact hso2) (by rw [hsz, hmin2]; simp only [List.length_append, hfB, hfx, List.length_drop]; rw [List.length_append, hfB] at h2; omega) (cs' := flat (es.take i ++ [x] ++ es.drop i) ++ (zs'.drop 1).drop ((es.length - i) * 1)) (by rw [hsz, hmin2, List.take_of_length_le (l := flat (es.drop i)) (by omega), splice_at (by rw [List.length_append, hfB, hfx]; omega), hfC, flat_append, flat_append]) ?_
      (simp (disch := first | decide | omega | (simp only [nx]; first | done | omega)) only [go_sem]; (repeat with_reducible refine aI ?_))
      refine ⟨_, _, thaw_drop k _, ?_⟩
      rw [St.add_set, St.add_set, St.add_drop _ _ hkn]
      have e1 : i + (es.length + 1 - i) = es.length + 1 := by omega
      rw [e1] at h1 ⊢
      have := h c' (List.drop ((es.length - i) * 1) (List.drop 1 zs')) h1 (by
        simp only [List.length_append, flat_append, hfB, hfC, hfx, List.length_drop]
        rw [List.length_append, hfB] at h2
        omega)
      rw [ownOb_box (by omega)] at this
      exact this
    · have b2 : decide ((c : Int) < ((es.length + 1 : Nat) : Int)) = false := by simp; omega
      have hwr3 : IntKind.i64.wrap ((i : Int) + ((1 : Nat) : Int)) = ((i + 1 : Nat) : Int) := by rw [IntKind.wrap_i64]; omega
      (simp (disch := first | decide | omega | (simp only [nx]; first | done | omega)) only [go_sem, hwr, hwr3, h10, b1, b2, winOff_lt]; (repeat with_reducible refine aI ?_))
      refine doverlaps (tr := 4) Tryz.func144 (by kernel_rfl) (by kernel_rfl) (by kernel_rfl) (by kernel_rfl) heT hiS hk (fun e => by rw [e] at hl; simp at hl; omega) ?_
      (simp (disch := first | decide | omega | (simp only [nx]; first | done | omega)) only [go_sem, winOff_lt]; (repeat with_reducible refine aI ?_))
      refine ddraw_mk 8 (by kernel_rfl) ?_
      (simp (disch := first | decide | omega | (simp only [nx]; first | done | omega)) only [go_sem, winOff_lt, hwr3]; (repeat with_reducible refine aI ?_))
      have hfx : (flat [x]).length = 1 := by simpa [flat, D.width] using hx
      have hfB : (flat (es.take i)).length = i * 1 := by rw [dflat_length fun d hd => hw d (List.mem_of_mem_take hd), List.length_take]; congr 1; omega
      have hfC : (flat (es.drop i)).length = (es.length - i) * 1 := by rw [dflat_length fun d hd => hw d (List.mem_of_mem_drop hd), List.length_drop]
      have hff : flat es = flat (es.take i) ++ flat (es.drop i) := by rw [← flat_append, List.take_append_drop]
      have hzl : 1 ≤ zs.length := by rw [List.length_append, hff, List.length_append, hfB, hfC] at hl; omega
      have hmin : Nat.min (es.length + 1 - i) (es.length + 1 - (i + 1)) = es.length - i := by show min _ _ = _; omega
      obtain ⟨cs1, hcs1⟩ : ∃ cs1, splice (flat es ++ zs) ((i + 1) * 1) (flat (es.drop i)) = cs1 := ⟨_, rfl⟩
      have hcl : cs1.length = c * 1 := by rw [← hcs1, splice_len, hl]; rw [hl, hfC]; omega
      refine dcopy_win heT hiS (m := es.length + 1 - i) hk (srcOk_win hk (by rw [hsz, hl]; omega)) (by rw [hsz, hmin, hl]; omega) (cs' := cs1) (by
        rw [hsz, hmin, ← hcs1, List.take_take, Nat.min_eq_left (by omega), List.drop_append_of_le_length (by rw [hff, List.length_append, hfB]; omega), flat_drop hw, List.take_append_of_le_length (by omega), List.take_of_length_le (by omega)]) ?_
      (simp (disch := first | decide | omega | (simp only [nx]; first | done | omega)) only [go_sem, winOff_lt, hwr3]; (repeat with_reducible refine aI ?_))
      have hmin2 : Nat.min 1 (es.length + 1 - i) = 1 := by show min _ _ = _; omega
      refine dcopy_win heT hiS (m := 1) (cs := cs1) (bt := 42) (news := flat [x]) (by (first | (simp (disch := first | decide | omega | (simp only [nx]; first | done | omega)) only [go_sem]; first | done | rfl) | rfl)) (srcOk_one (by rw [hsz]; exact hx)) (by rw [hsz, hmin2, hcl]; omega) (cs' := flat (es.take i ++ [x] ++ es.drop i) ++ zs.drop 1) (by rw [hsz, hmin2, List.take_of_length_le (l := flat [x]) (by omega), ← hcs1, hff, ins_old (by rw [hfB]) (by rw [hfB, hfx]; omega) (by omega), hfx, flat_append, flat_append]) ?_
      (simp (disch := first | decide | omega | (simp only [nx]; first | done | omega)) only [go_sem]; (repeat with_reducible refine aI ?_))
      rw [St.set_set]
      refine ⟨_, _, thaw_rename (o := .box 42 (flat (es.take i ++ [x] ++ es.drop i) ++ zs.drop 1)) (by simp [St.set]), ?_⟩
      rw [St.set_drop]
      have := h c (zs.drop 1) (by omega) (by
        simp only [List.length_append, flat_append, hfB, hfC, hfx, List.length_drop]
        rw [List.length_append, hff, List.length_append, hfB, hfC] at hl
        omega)
      rw [ownOb_box (by omega)] at this
      exact this

end Go.Proofs.YtjjhjhjphhpeiaaGreatDoor

namespace Go.Proofs.YtjjhjhjphhpeiaaGreatDoor
open Go.RowKit
theorem strEq_d (own own2 : Own) (l m : List Str) (hn : l.length ≤ 140737488351232) (hm : m.length ≤ 140737488351232) : DPure Tryz.prog 81 [.sl own (l.map strD), .sl own2 (m.map strD)] (.v (.bool (decide (l = m)))) :=
  dpure_of_gives (fun _ _ => by kernel_rfl) fun w η X vs hr => by
    simp only [RepL] at hr
    obtain ⟨y, ys, rfl, h1, z, zs, rfl, h2, rfl⟩ := hr
    obtain ⟨A, c, rfl, hc, hf⟩ := strArg h1
    obtain ⟨A2, c2, rfl, hc2, hf2⟩ := strArg h2
    exact strEqual_calls l m A A2 c c2 w hf hf2 hn hm
set_option maxRecDepth 200000 in
set_option maxHeartbeats 4000000 in
theorem uEq_d (own own2 : Own) (l m : List Nat) (hn : l.length ≤ 1000000) : DPure Tryz.prog 82 [.sl own (l.map u64D), .sl own2 (m.map u64D)] (.v (.bool (decide (l = m)))) := by
  refine dpure_of_dwp mixed Tryz.func82 rfl (fun _ _ => by kernel_rfl) (rs := [.tmp 4]) rfl (by kernel_rfl) trivial (fun S hS => ?_)
  by_cases hlm : l.length = m.length
  · have b0 : ((l.length : Int) != (m.length : Int)) = false := by simp [hlm]
    (simp (disch := first | decide | omega | (simp only [nx]; first | done | omega)) only [go_sem, b0]; (repeat with_reducible refine aI ?_))
    (refine dloop_st (fun t => List.contains [4, 5, 13, 14, 15, 16, 17, 18, 19, 20, 21, 22, 23, 24, 25] t) (by kernel_rfl) ?_ (l.length) (fun i f => i ≤ l.length ∧ f 13 = .v (.int .i64 ((i : Nat) : Int)) ∧ (∀ (r : Nat) (h1 : r < l.length) (h2 : r < m.length), r < i → l[r] = m[r])) ?_ ?_; (exact (by (repeat' first | assumption | refine St.WF.leave ?_ _ | refine St.WF.add ?_ _ | refine St.WF.set ?_ ?_ _ | refine St.WF.grow ?_ _ _ _ | refine St.WF.keep ?_ ?_ | (first | omega | (simp only [RowOk.lo, nx]; first | done | omega))))); (exact ⟨(by omega), (by (first | (simp (disch := first | decide | omega | (simp only [nx]; first | done | omega)) only [go_sem]; first | done | rfl) | rfl)), (fun r _ _ h => by omega)⟩); intro i g tn hn hT hg hI; obtain ⟨le, q13, hno⟩ := hI; have q0 := hg 0 rfl; have q1 := hg 1 rfl; have q12 := hg 12 rfl; simp (disch := first | decide | omega | (simp only [nx]; first | done | omega)) only [go_sem] at q0 q1 q12; clear hg; have hn' := hn; try simp only [add_next, set_next, grow_next, leave_next, drop_next] at hn')
    by_cases hlt : i < l.length
    · have hlt2 : i < m.length := by omega
      have b1 : decide ((i : Int) < (l.length : Int)) = true := by simp; omega
      have w1 : IntKind.i64.wrap ((i : Int) + 1) = ((i + 1 : Nat) : Int) := IntWalk.i64_in _ ⟨by omega, by omega⟩
      have hx := getD_map u64D l i hlt
      have hy := getD_map u64D m i hlt2
      (simp (disch := first | decide | omega | (simp only [nx]; first | done | omega)) only [go_sem, b1, q0, q1, q12, q13]; (repeat with_reducible refine aI ?_))
      refine ddraw_mk 9 (by kernel_rfl) ?_
      (simp (disch := first | decide | omega | (simp only [nx]; first | done | omega)) only [go_sem, b1, hx, hy, q0, q1, q12, q13]; (repeat with_reducible refine aI ?_))
      by_cases he : l[i] = m[i]
      · have b2 : ((l[i] : Int) != (m[i] : Int)) = false := by simp [he]
        (simp (disch := first | decide | omega | (simp only [nx]; first | done | omega)) only [go_sem, b2, w1, q0, q1, q12, q13]; (repeat with_reducible refine aI ?_))
        (refine ⟨by omega, (by (repeat' first | assumption | exact St.Sub.refl _ | exact RowOk.sub (by assumption) (by assumption) | refine St.Sub.trans ?_ (RowOk.sub (by assumption) (by assumption)) | refine St.Sub.add ?_ ?_ _ | refine St.Sub.set ?_ ?_ ?_ _ | refine St.Sub.keep ?_ ?_ | refine St.WF.leave ?_ _ | refine St.WF.add ?_ _ | refine St.WF.set ?_ ?_ _ | refine St.WF.grow ?_ _ _ _ | refine St.WF.keep ?_ ?_ | (first | omega | (simp only [RowOk.lo, nx]; first | done | omega)))), ?_⟩; refine ⟨by omega, ?_, ?_⟩; all_goals (try (first | (simp (disch := first | decide | omega | (simp only [nx]; first | done | omega)) only [go_sem, w1]; first | done | rfl) | rfl)))
        intro r h1 h2 hr
        by_cases e : r = i
        · subst e; exact he
        · exact hno r h1 h2 (by omega)
      · have b2 : ((l[i] : Int) != (m[i] : Int)) = true := by simp; omega
        (simp (disch := first | decide | omega | (simp only [nx]; first | done | omega)) only [go_sem, b2]; (repeat with_reducible refine aI ?_))
        have hne : decide (l = m) = false := by
          rw [decide_eq_false_iff_not]
          rintro rfl
          exact he rfl
        rw [hne]
        exact ⟨rfl, (by (repeat' first | assumption | exact St.Sub.refl _ | exact RowOk.sub (by assumption) (by assumption) | refine St.Sub.trans ?_ (RowOk.sub (by assumption) (by assumption)) | refine St.Sub.add ?_ ?_ _ | refine St.Sub.set ?_ ?_ ?_ _ | refine St.Sub.keep ?_ ?_ | refine St.WF.leave ?_ _ | refine St.WF.add ?_ _ | refine St.WF.set ?_ ?_ _ | refine St.WF.grow ?_ _ _ _ | refine St.WF.keep ?_ ?_ | (first | omega | (simp only [RowOk.lo, nx]; first | done | omega))))⟩
    · have b1 : decide ((i : Int) < (l.length : Int)) = false := by simp; omega
      (simp (disch := first | decide | omega | (simp only [nx]; first | done | omega)) only [go_sem, b1, q0, q1, q12, q13]; (repeat with_reducible refine aI ?_))
      have heq : decide (l = m) = true := by
        rw [decide_eq_true_eq]
        exact List.ext_getElem hlm fun r h1 h2 => hno r h1 h2 (by omega)
      rw [heq]
      exact ⟨rfl, (by (repeat' first | assumption | exact St.Sub.refl _ | exact RowOk.sub (by assumption) (by assumption) | refine St.Sub.trans ?_ (RowOk.sub (by assumption) (by assumption)) | refine St.Sub.add ?_ ?_ _ | refine St.Sub.set ?_ ?_ ?_ _ | refine St.Sub.keep ?_ ?_ | refine St.WF.leave ?_ _ | refine St.WF.add ?_ _ | refine St.WF.set ?_ ?_ _ | refine St.WF.grow ?_ _ _ _ | refine St.WF.keep ?_ ?_ | (first | omega | (simp only [RowOk.lo, nx]; first | done | omega))))⟩
  · have b0 : ((l.length : Int) != (m.length : Int)) = true := by simp; omega
    (simp (disch := first | decide | omega | (simp only [nx]; first | done | omega)) only [go_sem, b0]; (repeat with_reducible refine aI ?_))
    have hne : decide (l = m) = false := by
      rw [decide_eq_false_iff_not]
      rintro rfl
      exact hlm rfl
    rw [hne]
    exact ⟨rfl, (by (repeat' first | assumption | exact St.Sub.refl _ | exact RowOk.sub (by assumption) (by assumption) | refine St.Sub.trans ?_ (RowOk.sub (by assumption) (by assumption)) | refine St.Sub.add ?_ ?_ _ | refine St.Sub.set ?_ ?_ ?_ _ | refine St.Sub.keep ?_ ?_ | refine St.WF.leave ?_ _ | refine St.WF.add ?_ _ | refine St.WF.set ?_ ?_ _ | refine St.WF.grow ?_ _ _ _ | refine St.WF.keep ?_ ?_ | (first | omega | (simp only [RowOk.lo, nx]; first | done | omega))))⟩
set_option maxRecDepth 200000 in
set_option maxHeartbeats 4000000 in
theorem valEqF_d (g : FuncId) (own own2 : Own) (l m : List DVal) (hn : l.length ≤ 1000000) (h : l.length = m.length → ∀ (i : Nat) (h1 : i < l.length) (h2 : i < m.length), DPure Tryz.prog g [encV l[i], encV m[i]] (.v (.bool (eqB l[i] m[i])))) : DPure Tryz.prog 83 [.sl own (l.map encV), .sl own2 (m.map encV), .fn (.func g) [] []] (.v (.bool (eqB l m))) := by
  refine dpure_of_dwp mixed Tryz.func83 rfl (fun _ _ => by kernel_rfl) (rs := [.tmp 6]) rfl (by kernel_rfl) trivial (fun S hS => ?_)
  by_cases hlm : l.length = m.length
  · have b0 : ((l.length : Int) != (m.length : Int)) = false := by simp [hlm]
    (simp (disch := first | decide | omega | (simp only [nx]; first | done | omega)) only [go_sem, b0]; (repeat with_reducible refine aI ?_))
    (refine dloop_st (fun t => List.contains [6, 7, 8, 9, 17, 18, 19, 20, 21, 22, 23, 24, 25, 26, 27, 28, 29, 30, 31] t) (by kernel_rfl) ?_ (l.length) (fun i f => i ≤ l.length ∧ f 17 = .v (.int .i64 ((i : Nat) : Int)) ∧ (∀ (r : Nat) (h1 : r < l.length) (h2 : r < m.length), r < i → l[r] = m[r])) ?_ ?_; (exact (by (repeat' first | assumption | refine St.WF.leave ?_ _ | refine St.WF.add ?_ _ | refine St.WF.set ?_ ?_ _ | refine St.WF.grow ?_ _ _ _ | refine St.WF.keep ?_ ?_ | (first | omega | (simp only [RowOk.lo, nx]; first | done | omega))))); (exact ⟨(by omega), (by (first | (simp (disch := first | decide | omega | (simp only [nx]; first | done | omega)) only [go_sem]; first | done | rfl) | rfl)), (fun r _ _ h => by omega)⟩); intro i g tn hn hT hg hI; obtain ⟨le, q17, hno⟩ := hI; have q1 := hg 1 rfl; have q2 := hg 2 rfl; have q15 := hg 15 rfl; have q16 := hg 16 rfl; simp (disch := first | decide | omega | (simp only [nx]; first | done | omega)) only [go_sem] at q1 q2 q15 q16; clear hg; have hn' := hn; try simp only [add_next, set_next, grow_next, leave_next, drop_next] at hn')
    by_cases hlt : i < l.length
    · have hlt2 : i < m.length := by omega
      have b1 : decide ((i : Int) < (l.length : Int)) = true := by simp; omega
      have w1 : IntKind.i64.wrap ((i : Int) + 1) = ((i + 1 : Nat) : Int) := IntWalk.i64_in _ ⟨by omega, by omega⟩
      have hx := getD_map encV l i hlt
      have hy := getD_map encV m i hlt2
      (simp (disch := first | decide | omega | (simp only [nx]; first | done | omega)) only [go_sem, b1, hx, hy, q1, q2, q15, q16, q17]; (repeat with_reducible refine aI ?_))
      refine DCalls.of_pure (h hlm i hlt hlt2) ?_
      by_cases he : l[i] = m[i]
      · rw [eqB_true he]
        (simp (disch := first | decide | omega | (simp only [nx]; first | done | omega)) only [go_sem, w1, q1, q2, q15, q16, q17]; (repeat with_reducible refine aI ?_))
        (refine ⟨by omega, (by (repeat' first | assumption | exact St.Sub.refl _ | exact RowOk.sub (by assumption) (by assumption) | refine St.Sub.trans ?_ (RowOk.sub (by assumption) (by assumption)) | refine St.Sub.add ?_ ?_ _ | refine St.Sub.set ?_ ?_ ?_ _ | refine St.Sub.keep ?_ ?_ | refine St.WF.leave ?_ _ | refine St.WF.add ?_ _ | refine St.WF.set ?_ ?_ _ | refine St.WF.grow ?_ _ _ _ | refine St.WF.keep ?_ ?_ | (first | omega | (simp only [RowOk.lo, nx]; first | done | omega)))), ?_⟩; refine ⟨by omega, ?_, ?_⟩; all_goals (try (first | (simp (disch := first | decide | omega | (simp only [nx]; first | done | omega)) only [go_sem, w1]; first | done | rfl) | rfl)))
        intro r h1 h2 hr
        by_cases e : r = i
        · subst e; exact he
        · exact hno r h1 h2 (by omega)
      · rw [eqB_false he]
        (simp (disch := first | decide | omega | (simp only [nx]; first | done | omega)) only [go_sem]; (repeat with_reducible refine aI ?_))
        have hne : eqB l m = false := eqB_false (by rintro rfl; exact he rfl)
        rw [hne]
        exact ⟨rfl, (by (repeat' first | assumption | exact St.Sub.refl _ | exact RowOk.sub (by assumption) (by assumption) | refine St.Sub.trans ?_ (RowOk.sub (by assumption) (by assumption)) | refine St.Sub.add ?_ ?_ _ | refine St.Sub.set ?_ ?_ ?_ _ | refine St.Sub.keep ?_ ?_ | refine St.WF.leave ?_ _ | refine St.WF.add ?_ _ | refine St.WF.set ?_ ?_ _ | refine St.WF.grow ?_ _ _ _ | refine St.WF.keep ?_ ?_ | (first | omega | (simp only [RowOk.lo, nx]; first | done | omega))))⟩
    · have b1 : decide ((i : Int) < (l.length : Int)) = false := by simp; omega
      (simp (disch := first | decide | omega | (simp only [nx]; first | done | omega)) only [go_sem, b1, q1, q2, q15, q16, q17]; (repeat with_reducible refine aI ?_))
      have heq : eqB l m = true := eqB_true (List.ext_getElem hlm fun r h1 h2 => hno r h1 h2 (by omega))
      rw [heq]
      exact ⟨rfl, (by (repeat' first | assumption | exact St.Sub.refl _ | exact RowOk.sub (by assumption) (by assumption) | refine St.Sub.trans ?_ (RowOk.sub (by assumption) (by assumption)) | refine St.Sub.add ?_ ?_ _ | refine St.Sub.set ?_ ?_ ?_ _ | refine St.Sub.keep ?_ ?_ | refine St.WF.leave ?_ _ | refine St.WF.add ?_ _ | refine St.WF.set ?_ ?_ _ | refine St.WF.grow ?_ _ _ _ | refine St.WF.keep ?_ ?_ | (first | omega | (simp only [RowOk.lo, nx]; first | done | omega))))⟩
  · have b0 : ((l.length : Int) != (m.length : Int)) = true := by simp; omega
    (simp (disch := first | decide | omega | (simp only [nx]; first | done | omega)) only [go_sem, b0]; (repeat with_reducible refine aI ?_))
    have hne : eqB l m = false := eqB_false (by rintro rfl; exact hlm rfl)
    rw [hne]
    exact ⟨rfl, (by (repeat' first | assumption | exact St.Sub.refl _ | exact RowOk.sub (by assumption) (by assumption) | refine St.Sub.trans ?_ (RowOk.sub (by assumption) (by assumption)) | refine St.Sub.add ?_ ?_ _ | refine St.Sub.set ?_ ?_ ?_ _ | refine St.Sub.keep ?_ ?_ | refine St.WF.leave ?_ _ | refine St.WF.add ?_ _ | refine St.WF.set ?_ ?_ _ | refine St.WF.grow ?_ _ _ _ | refine St.WF.keep ?_ ?_ | (first | omega | (simp only [RowOk.lo, nx]; first | done | omega))))⟩
set_option maxRecDepth 200000 in
set_option maxHeartbeats 4000000 in
theorem valSame_d (k : Nat) : ∀ (a b : DVal), a.depth ≤ k → a.weight ≤ 1000000 → b.weight ≤ 1000000 → DPure Tryz.prog 47 [encV a, encV b] (.v (.bool (eqB a b))) := by
  induction k with
  | zero => intro a b h; have := a.depth_pos; omega
  | succ k ih =>
    intro a b hk ha hb
    have hwa := a.weight_eq
    have hwb := b.weight_eq
    have hpa := partsLen a
    have hpb := partsLen b
    refine dpure_of_dwp mixed Tryz.func47 rfl (fun _ _ => by kernel_rfl) (rs := [.tmp 4]) rfl (by kernel_rfl) trivial (fun S hS => ?_)
    have fin : ∀ (T : St), S.Sub T → eqB a b = false → PFin S T (.v (.bool false)) (.v (.bool (eqB a b))) := fun T hT he => by rw [he]; exact ⟨rfl, hT⟩
    by_cases h1 : a.kind = b.kind
    rotate_left
    · have b1 : (a.kind == b.kind) = false := by simpa using h1
      (simp (disch := first | decide | omega | (simp only [nx]; first | done | omega)) only [go_sem, encV_eq, b1]; (repeat with_reducible refine aI ?_))
      exact fin _ (by (repeat' first | assumption | exact St.Sub.refl _ | exact RowOk.sub (by assumption) (by assumption) | refine St.Sub.trans ?_ (RowOk.sub (by assumption) (by assumption)) | refine St.Sub.add ?_ ?_ _ | refine St.Sub.set ?_ ?_ ?_ _ | refine St.Sub.keep ?_ ?_ | refine St.WF.leave ?_ _ | refine St.WF.add ?_ _ | refine St.WF.set ?_ ?_ _ | refine St.WF.grow ?_ _ _ _ | refine St.WF.keep ?_ ?_ | (first | omega | (simp only [RowOk.lo, nx]; first | done | omega)))) (eqB_false (by rintro rfl; exact h1 rfl))
    by_cases h2 : a.n = b.n
    rotate_left
    · have b1 : (a.kind == b.kind) = true := by simpa using h1
      have b2 : (a.n == b.n) = false := by simpa using h2
      (simp (disch := first | decide | omega | (simp only [nx]; first | done | omega)) only [go_sem, encV_eq, b1, b2]; (repeat with_reducible refine aI ?_))
      exact fin _ (by (repeat' first | assumption | exact St.Sub.refl _ | exact RowOk.sub (by assumption) (by assumption) | refine St.Sub.trans ?_ (RowOk.sub (by assumption) (by assumption)) | refine St.Sub.add ?_ ?_ _ | refine St.Sub.set ?_ ?_ ?_ _ | refine St.Sub.keep ?_ ?_ | refine St.WF.leave ?_ _ | refine St.WF.add ?_ _ | refine St.WF.set ?_ ?_ _ | refine St.WF.grow ?_ _ _ _ | refine St.WF.keep ?_ ?_ | (first | omega | (simp only [RowOk.lo, nx]; first | done | omega)))) (eqB_false (by rintro rfl; exact h2 rfl))
    by_cases h3 : a.s = b.s
    rotate_left
    · have b1 : (a.kind == b.kind) = true := by simpa using h1
      have b2 : (a.n == b.n) = true := by simpa using h2
      have b3 : (a.s == b.s) = false := by simpa using h3
      (simp (disch := first | decide | omega | (simp only [nx]; first | done | omega)) only [go_sem, encV_eq, b1, b2, b3]; (repeat with_reducible refine aI ?_))
      exact fin _ (by (repeat' first | assumption | exact St.Sub.refl _ | exact RowOk.sub (by assumption) (by assumption) | refine St.Sub.trans ?_ (RowOk.sub (by assumption) (by assumption)) | refine St.Sub.add ?_ ?_ _ | refine St.Sub.set ?_ ?_ ?_ _ | refine St.Sub.keep ?_ ?_ | refine St.WF.leave ?_ _ | refine St.WF.add ?_ _ | refine St.WF.set ?_ ?_ _ | refine St.WF.grow ?_ _ _ _ | refine St.WF.keep ?_ ?_ | (first | omega | (simp only [RowOk.lo, nx]; first | done | omega)))) (eqB_false (by rintro rfl; exact h3 rfl))
    have b1 : (a.kind == b.kind) = true := by simpa using h1
    have b2 : (a.n == b.n) = true := by simpa using h2
    have b3 : (a.s == b.s) = true := by simpa using h3
    (simp (disch := first | decide | omega | (simp only [nx]; first | done | omega)) only [go_sem, encV_eq, b1, b2, b3]; (repeat with_reducible refine aI ?_))
    refine DCalls.of_pure (strEq_d .no .no a.names b.names (by omega) (by omega)) ?_
    by_cases h4 : a.names = b.names
    rotate_left
    · have b4 : decide (a.names = b.names) = false := by simpa using h4
      (simp (disch := first | decide | omega | (simp only [nx]; first | done | omega)) only [go_sem, b4]; (repeat with_reducible refine aI ?_))
      exact fin _ (by (repeat' first | assumption | exact St.Sub.refl _ | exact RowOk.sub (by assumption) (by assumption) | refine St.Sub.trans ?_ (RowOk.sub (by assumption) (by assumption)) | refine St.Sub.add ?_ ?_ _ | refine St.Sub.set ?_ ?_ ?_ _ | refine St.Sub.keep ?_ ?_ | refine St.WF.leave ?_ _ | refine St.WF.add ?_ _ | refine St.WF.set ?_ ?_ _ | refine St.WF.grow ?_ _ _ _ | refine St.WF.keep ?_ ?_ | (first | omega | (simp only [RowOk.lo, nx]; first | done | omega)))) (eqB_false (by rintro rfl; exact h4 rfl))
    have b4 : decide (a.names = b.names) = true := by simpa using h4
    (simp (disch := first | decide | omega | (simp only [nx]; first | done | omega)) only [go_sem, b4]; (repeat with_reducible refine aI ?_))
    refine DCalls.of_pure (uEq_d .no .no a.ids b.ids (by omega)) ?_
    by_cases h5 : a.ids = b.ids
    rotate_left
    · have b5 : decide (a.ids = b.ids) = false := by simpa using h5
      (simp (disch := first | decide | omega | (simp only [nx]; first | done | omega)) only [go_sem, b5]; (repeat with_reducible refine aI ?_))
      exact fin _ (by (repeat' first | assumption | exact St.Sub.refl _ | exact RowOk.sub (by assumption) (by assumption) | refine St.Sub.trans ?_ (RowOk.sub (by assumption) (by assumption)) | refine St.Sub.add ?_ ?_ _ | refine St.Sub.set ?_ ?_ ?_ _ | refine St.Sub.keep ?_ ?_ | refine St.WF.leave ?_ _ | refine St.WF.add ?_ _ | refine St.WF.set ?_ ?_ _ | refine St.WF.grow ?_ _ _ _ | refine St.WF.keep ?_ ?_ | (first | omega | (simp only [RowOk.lo, nx]; first | done | omega)))) (eqB_false (by rintro rfl; exact h5 rfl))
    have b5 : decide (a.ids = b.ids) = true := by simpa using h5
    (simp (disch := first | decide | omega | (simp only [nx]; first | done | omega)) only [go_sem, b5]; (repeat with_reducible refine aI ?_))
    refine DCalls.of_pure (valEqF_d 47 .no .no a.parts b.parts (by omega) fun _ i i1 i2 => ih a.parts[i] b.parts[i] (by have := DVal.depth_part (List.getElem_mem i1); omega) (by have := DVal.weight_part (List.getElem_mem i1); omega) (by have := DVal.weight_part (List.getElem_mem i2); omega)) ?_
    (simp (disch := first | decide | omega | (simp only [nx]; first | done | omega)) only [go_sem]; (repeat with_reducible refine aI ?_))
    refine ⟨?_, (by (repeat' first | assumption | exact St.Sub.refl _ | exact RowOk.sub (by assumption) (by assumption) | refine St.Sub.trans ?_ (RowOk.sub (by assumption) (by assumption)) | refine St.Sub.add ?_ ?_ _ | refine St.Sub.set ?_ ?_ ?_ _ | refine St.Sub.keep ?_ ?_ | refine St.WF.leave ?_ _ | refine St.WF.add ?_ _ | refine St.WF.set ?_ ?_ _ | refine St.WF.grow ?_ _ _ _ | refine St.WF.keep ?_ ?_ | (first | omega | (simp only [RowOk.lo, nx]; first | done | omega))))⟩
    have : eqB a.parts b.parts = eqB a b := by
      by_cases h6 : a.parts = b.parts
      · rw [eqB_true h6, eqB_true ((DVal.ext_iff' a b).2 ⟨h1, h2, h3, h4, h5, h6⟩)]
      · rw [eqB_false h6, eqB_false (by rintro rfl; exact h6 rfl)]
    rw [this]
    rfl
end Go.Proofs.YtjjhjhjphhpeiaaGreatDoor

namespace Go.Proofs.YtjjhjhjphhpeiaaGreatDoor
open Go.RowKit
structure DOp where
  kind : Int
  path : List DStp
  id : Nat
  after : Nat
  val : DVal
def opCs (own : Own) (o : DOp) : List D := .v (.int .i64 o.kind) :: .sl own (o.path.map encP) :: .v (.int .u64 (o.id : Int)) :: .v (.int .u64 (o.after : Int)) :: (encV o.val).cells
def encO (o : DOp) : D := .agg (opCs .no o)
theorem opCs_len (own : Own) (o : DOp) : (opCs own o).length = 10 := by simp [opCs, cells_encV]
theorem take_opCs (own : Own) (o : DOp) : (opCs own o).take 10 = opCs own o := List.take_of_length_le (by rw [opCs_len]; omega)
theorem drop_opCs (own : Own) (o : DOp) : (opCs own o).drop 10 = [] := List.drop_of_length_le (by rw [opCs_len]; omega)
theorem agg_opCs (o : DOp) : D.agg (opCs .no o) = encO o := rfl
attribute [go_sem] opCs_len take_opCs drop_opCs agg_opCs
theorem cells_encO (o : DOp) : (encO o).cells = opCs .no o := rfl
theorem okCell_encO (o : DOp) : (encO o).okCell = true := rfl
attribute [go_sem] cells_encO okCell_encO
theorem closed_encO (o : DOp) : (encO o).closed := by
  simp only [encO, opCs, D.closed, D.all, allL, Own.all, true_and]
  refine ⟨allL_iff.2 fun d hd => ?_, encV_cells_closed o.val⟩
  obtain ⟨p, _, rfl⟩ := List.mem_map.1 hd
  simp [encP, D.all, allL, strD, u64D]
theorem frz_mapPk (l : List DStp) : frzL (l.map encP) = l.map encP := by simp [frzL_map, encP, D.frz, frzL, strD, u64D, Function.comp_def]
theorem frz_cellsV (v : DVal) : frzL (encV v).cells = (encV v).cells := by
  have h := frz_encV v
  rw [← agg_encV v, D.frz] at h
  rw [← agg_encV v] at h
  injection h
theorem frz_opCs (own : Own) (o : DOp) : frzL (opCs own o) = opCs .no o := by
  simp only [opCs, frzL, D.frz, frz_mapPk, frz_cellsV]
theorem frz_encO (o : DOp) : (encO o).frz = encO o := by simp only [encO, D.frz, frz_opCs]
end Go.Proofs.YtjjhjhjphhpeiaaGreatDoor

namespace Go.Proofs.YtjjhjhjphhpeiaaGreatDoor
open Go.RowKit
theorem OV.fz {S T : St} {v : DVal} {a b c ca cb cc : Nat} {zn zi zp : List D} (h : OV S v a b c ca cb cc zn zi zp) (hz : Fz (fun _ => True) S T) : OV T v a b c ca cb cc zn zi zp :=
  ⟨hz.ob _ _ trivial h.obn, h.ln, hz.ob _ _ trivial h.obi, h.li, hz.ob _ _ trivial h.obp, h.lp, h.ab, h.ac, h.bc⟩
set_option maxRecDepth 200000 in
set_option maxHeartbeats 4000000 in
theorem elem_o {S : St} (v : DVal) (a b c ca cb cc : Nat) {zn zi zp : List D} (hO : OV S v a b c ca cb cc zn zi zp) (x : Nat) (hn : v.ids.length ≤ 140737488351232) : DCalls Tryz.prog 108 [ownV v a b c ca cb cc, .v (uv x)] S (fun d T => d = elemV v x ∧ Fz (fun _ => True) S T ∧ T.WF) := by
  refine dcalls_inline mixed Tryz.func108 rfl (fun _ _ => by kernel_rfl) (rs := [.tmp 4, .tmp 5]) rfl (by kernel_rfl) (fun hS => ?_)
  have n2 := ownOb_len (wUs v.ids) (by omega) hO.li
  rw [List.length_map] at n2
  have hbl := hS.lt hO.obi
  (simp (disch := first | decide | omega | (simp only [nx]; first | done | omega)) only [go_sem, ownV]; (repeat with_reducible refine aI ?_))
  refine uIndex_w v.ids x hn (c := cb) (zs := zi) (by have : b ≠ S.next := by omega
                                                      (first | (simp (disch := first | decide | omega | (simp only [nx]; first | done | omega)) only [go_sem, hO.obi, this]; first | done | rfl) | rfl)) n2 ?_
  have hz : Fz (fun _ => True) S (S.add (.box 29 (ownV v a b c ca cb cc).cells)) := (Fz.refl _ S).add hS
  by_cases h6 : v.kind = 6
  · have b6 : (v.kind != 6) = false := by simp [h6]
    by_cases hm : x ∈ v.ids
    · have b7 : decide (ixI v.ids x < 0) = false := by unfold ixI; rw [if_pos hm]; simp
      (simp (disch := first | decide | omega | (simp only [nx]; first | done | omega)) only [go_sem, b6, b7]; (repeat with_reducible refine aI ?_))
      exact ⟨by simp only [elemV, h6, hm, and_self, if_true, ixI], hz, hS.add _⟩
    · have b7 : decide (ixI v.ids x < 0) = true := by unfold ixI; rw [if_neg hm]; decide
      (simp (disch := first | decide | omega | (simp only [nx]; first | done | omega)) only [go_sem, b6, b7]; (repeat with_reducible refine aI ?_))
      exact ⟨by simp only [elemV, hm, and_false, if_false], hz, hS.add _⟩
  · have b6 : (v.kind != 6) = true := by simp [h6]
    (simp (disch := first | decide | omega | (simp only [nx]; first | done | omega)) only [go_sem, b6]; (repeat with_reducible refine aI ?_))
    exact ⟨by simp only [elemV, h6, false_and, if_false], hz, hS.add _⟩
def plK (v : DVal) (after : Nat) : Nat := if after = 0 then 0 else if after ∈ v.ids then ixN v.ids after + 1 else v.ids.length
theorem plK_le (v : DVal) (after : Nat) : plK v after ≤ v.ids.length := by
  unfold plK
  split
  · omega
  · split
    · rename_i h; exact ix_lt h
    · exact Nat.le_refl _
def DVal.ofList (v : DVal) (is : List Nat) (ps : List DVal) : DVal := .mk v.kind v.n v.s v.names is ps
def plV (v : DVal) (id after : Nat) (x : DVal) : DVal := v.ofList (v.ids.take (plK v after) ++ [id] ++ v.ids.drop (plK v after)) (v.parts.take (plK v after) ++ [x] ++ v.parts.drop (plK v after))
theorem K_eq {K : D → St → Prop} {d d' : D} {T : St} (e : d = d') (h : K d' T) : K d T := e ▸ h
theorem plV_ids (v x : DVal) (id after : Nat) : (plV v id after x).ids.map u64D = (v.ids.map u64D).take (plK v after) ++ [u64D id] ++ (v.ids.map u64D).drop (plK v after) := by
  simp only [plV, DVal.ofList, DVal.ids, List.map_append, List.map_take, List.map_drop, List.map_cons, List.map_nil]
theorem plV_parts (v x : DVal) (id after : Nat) : (plV v id after x).parts.map encV = (v.parts.map encV).take (plK v after) ++ [encV x] ++ (v.parts.map encV).drop (plK v after) := by
  simp only [plV, DVal.ofList, DVal.parts, List.map_append, List.map_take, List.map_drop, List.map_cons, List.map_nil]
theorem ins_len {α : Type} (l : List α) (x : α) {k : Nat} (h : k ≤ l.length) : (l.take k ++ [x] ++ l.drop k).length = l.length + 1 := by
  simp only [List.length_append, List.length_take, List.length_drop, List.length_cons, List.length_nil]; omega
theorem plV_ilen (v x : DVal) (id after : Nat) : (plV v id after x).ids.length = v.ids.length + 1 := ins_len _ _ (plK_le v after)
theorem plV_plen {v x : DVal} {id after : Nat} (h : v.parts.length = v.ids.length) : (plV v id after x).parts.length = v.parts.length + 1 := ins_len _ _ (by rw [h]; exact plK_le v after)
def tkV (v : DVal) (k : Nat) : DVal := v.ofList (v.ids.take k ++ v.ids.drop (k + 1)) (v.parts.take k ++ v.parts.drop (k + 1))
set_option maxRecDepth 200000 in
set_option maxHeartbeats 8000000 in
theorem place_o {S : St} {K : D → St → Prop} (v x : DVal) (id after : Nat) (a b c ca cb cc : Nat) {zn zi zp : List D} (hO : OV S v a b c ca cb cc zn zi zp) (h6 : v.kind = 6) (hl : v.parts.length = v.ids.length) (hn : v.ids.length ≤ 1000000)
    (hK : ∀ T b' c' cb' cc' zi' zp', Fz (fun j => j ≠ b ∧ j ≠ c) S T → T.WF → S.next ≤ b' → S.next ≤ c' → OV T (plV v id after x) a b' c' ca cb' cc' zn zi' zp' → K (ownV (plV v id after x) a b' c' ca cb' cc') T) :
    DCalls Tryz.prog 148 [ownV v a b c ca cb cc, .v (uv id), .v (uv after), encV x] S K := by
  refine dcalls_inline mixed Tryz.func148 rfl (fun _ _ => by kernel_rfl) (rs := [.cell 8 29]) rfl (by kernel_rfl) (fun hS => ?_)
  have l1 := hS.lt hO.obn
  have l2 := hS.lt hO.obi
  have l3 := hS.lt hO.obp
  have hkl := plK_le v after
  by_cases h0 : after = 0
  · have b0 : ((after : Int) != 0) = false := by simp [h0]
    have hk0 : plK v after = 0 := by unfold plK; rw [if_pos h0]
    (simp (disch := first | decide | omega | (simp only [nx]; first | done | omega)) only [go_sem, uv, b0]; (repeat with_reducible refine aI ?_))
    obtain ⟨T0, hT0e⟩ : ∃ T0, ((S.add (.box 29 (ownV v a b c ca cb cc).cells)).add (.box 29 (encV x).cells)).add (.box 29 [.v (.int .i64 0), .v (.int .i64 0), .v (.string ⟨#[]⟩), .sl .full [], .sl .full [], .sl .full []]) = T0 := ⟨_, rfl⟩
    have hF0 : Fz (fun _ => True) S T0 := by rw [← hT0e]; exact (((Fz.refl _ S).add hS).add hS).add hS
    have hT0 : T0.WF := by rw [← hT0e]; exact ((hS.add _).add _).add _
    have hn0 : T0.next = S.next + 1 + 1 + 1 := by rw [← hT0e]; rfl
    have u4 : T0.ob S.next = some (.box 29 [.v (.int .i64 v.kind), .v (.int .i64 v.n), .v (sv v.s), .win a 0 v.names.length ca, .win b 0 v.ids.length cb, .win c 0 v.parts.length cc]) := by rw [← hT0e]; (first | (simp (disch := first | decide | omega | (simp only [nx]; first | done | omega)) only [go_sem]; first | done | rfl) | rfl)
    have u7 : T0.ob (S.next + 1) = some (.box 29 (encV x).cells) := by rw [← hT0e]; (first | (simp (disch := first | decide | omega | (simp only [nx]; first | done | omega)) only [go_sem]; first | done | rfl) | rfl)
    have u8 : T0.ob (S.next + 1 + 1) = some (.box 29 [.v (.int .i64 0), .v (.int .i64 0), .v (.string ⟨#[]⟩), .sl .full [], .sl .full [], .sl .full []]) := by rw [← hT0e]; (first | (simp (disch := first | decide | omega | (simp only [nx]; first | done | omega)) only [go_sem]; first | done | rfl) | rfl)
    have hO0 := hO.fz hF0
    rw [hT0e]
    clear hT0e
    rw [hk0] at hkl
    
    have l1' := hT0.lt hO0.obn
    have l2' := hT0.lt hO0.obi
    have l3' := hT0.lt hO0.obp
    have e1 : S.next ≠ T0.next := by omega
    have e2 : S.next ≠ b := by omega
    have e3 : S.next ≠ c := by omega
    have e4 : S.next + 1 ≠ T0.next := by omega
    have e5 : S.next + 1 ≠ b := by omega
    have e6 : S.next + 1 ≠ c := by omega
    have e7 : S.next + 1 + 1 ≠ T0.next := by omega
    have e8 : S.next + 1 + 1 ≠ b := by omega
    have e9 : S.next + 1 + 1 ≠ c := by omega
    have f1 : S.next ≠ T0.next + 1 := by omega
    have f2 : S.next + 1 ≠ T0.next + 1 := by omega
    have f3 : S.next + 1 + 1 ≠ T0.next + 1 := by omega
    have g1 : c ≠ T0.next := by omega
    have g2 : c ≠ b := fun e => hO.bc e.symm
    have g3 : c ≠ S.next := by omega
    refine ins_u64 (k := b) (c := cb) (zs := zi) (es := v.ids.map u64D) (x := u64D id) (i := 0) hO0.obi hO0.li (wUs _) rfl (by rw [List.length_map]; exact hkl) (by rw [List.length_map]; omega) (by omega) (by rw [List.length_map]) fun cb' zi' h1 h2 => ?_
    rw [List.length_map] at h1
    (simp (disch := first | decide | omega | (simp only [nx]; first | done | omega)) only [go_sem, u4, u7, u8, e1, e2, e3, e4, e5, e6, e7, e8, e9]; (repeat with_reducible refine aI ?_))
    refine ins_val (k := c) (c := cc) (zs := zp) (es := v.parts.map encV) (x := encV x) (i := 0) (by (first | (simp (disch := first | decide | omega | (simp only [nx]; first | done | omega)) only [go_sem, hO0.obp, g1, g2, g3]; first | done | rfl) | rfl)) hO0.lp (wVs _) (cells_encV x) (by rw [List.length_map]; omega) (by rw [List.length_map]; omega) (by show c < T0.next + 1; omega) (by rw [List.length_map]) fun cc' zp' h3 h4 => ?_
    rw [List.length_map] at h3
    (simp (disch := first | decide | omega | (simp only [nx]; first | done | omega)) only [go_sem, u4, u7, u8, e1, e2, e3, e4, e5, e6, e7, e8, e9, f1, f2, f3]; (repeat with_reducible refine aI ?_))
    have n1 : a ≠ b := hO.ab
    have n2 : a ≠ c := hO.ac
    have n3 : a ≠ T0.next := by omega
    have n4 : a ≠ T0.next + 1 := by omega
    have n5 : a ≠ S.next := by omega
    have n6 : a ≠ S.next + 1 + 1 := by omega
    have n7 : T0.next ≠ c := by omega
    have n8 : T0.next ≠ S.next := by omega
    have n9 : T0.next ≠ S.next + 1 + 1 := by omega
    have m1 : T0.next + 1 ≠ S.next := by omega
    have m2 : T0.next + 1 ≠ S.next + 1 + 1 := by omega
    refine K_eq ?_ (hK _ T0.next (T0.next + 1) cb' cc' zi' zp' ?_ ?_ (by omega) (by omega) ⟨?_, hO.ln, ?_, ?_, ?_, ?_, by omega, by omega, by omega⟩)
    · rw [ownV, plV_ilen, plV_plen hl]; rfl
    · exact (((((((hF0.mono fun _ _ => trivial).drop hS (.inl fun h => h.1 rfl)).add hS).set hS (.inr (by omega))).drop hS (.inl fun h => h.2 rfl)).add hS).set hS (.inr (by omega))).set hS (.inr (by omega))
    · exact (((((hT0.drop _).add _).set (by show S.next < T0.next + 1; omega) _).drop _).add _).set (by show S.next < T0.next + 1 + 1; omega) _ |>.set (by show S.next + 1 + 1 < T0.next + 1 + 1; omega) _
    · have := hO0.obn
      (first | (simp (disch := first | decide | omega | (simp only [nx]; first | done | omega)) only [go_sem, this, n1, n2, n3, n4, n5, n6]; first | done | rfl) | rfl)
    · rw [plV_ids, hk0]
      (first | (simp (disch := first | decide | omega | (simp only [nx]; first | done | omega)) only [go_sem, n7, n8, n9, e1]; first | done | rfl) | rfl)
    · rw [plV_ids, hk0]
      exact h2
    · rw [plV_parts, hk0]
      (first | (simp (disch := first | decide | omega | (simp only [nx]; first | done | omega)) only [go_sem, m1, m2]; first | done | rfl) | rfl)
    · rw [plV_parts, hk0]
      exact h4

  · have b0 : ((after : Int) != 0) = true := by simp; omega
    (simp (disch := first | decide | omega | (simp only [nx]; first | done | omega)) only [go_sem, uv, b0]; (repeat with_reducible refine aI ?_))
    have hFa : Fz (fun _ => True) S (((S.add (.box 29 (ownV v a b c ca cb cc).cells)).add (.box 29 (encV x).cells)).add (.box 29 [.v (.int .i64 0), .v (.int .i64 0), .v (.string ⟨#[]⟩), .sl .full [], .sl .full [], .sl .full []])) := (((Fz.refl _ S).add hS).add hS).add hS
    refine (elem_o v a b c ca cb cc (hO.fz hFa) after (by omega)).mono ?_
    rintro d T0 ⟨rfl, hFz, hT0⟩
    have hF0 : Fz (fun _ => True) S T0 := hFa.trans hFz
    have hn0 : S.next + 1 + 1 + 1 ≤ T0.next := hFz.next
    have u4 : T0.ob S.next = some (.box 29 [.v (.int .i64 v.kind), .v (.int .i64 v.n), .v (sv v.s), .win a 0 v.names.length ca, .win b 0 v.ids.length cb, .win c 0 v.parts.length cc]) := hFz.ob _ _ trivial (by (first | (simp (disch := first | decide | omega | (simp only [nx]; first | done | omega)) only [go_sem]; first | done | rfl) | rfl))
    have u7 : T0.ob (S.next + 1) = some (.box 29 (encV x).cells) := hFz.ob _ _ trivial (by (first | (simp (disch := first | decide | omega | (simp only [nx]; first | done | omega)) only [go_sem]; first | done | rfl) | rfl))
    have u8 : T0.ob (S.next + 1 + 1) = some (.box 29 [.v (.int .i64 0), .v (.int .i64 0), .v (.string ⟨#[]⟩), .sl .full [], .sl .full [], .sl .full []]) := hFz.ob _ _ trivial (by (first | (simp (disch := first | decide | omega | (simp only [nx]; first | done | omega)) only [go_sem]; first | done | rfl) | rfl))
    have hO0 := hO.fz hF0
    by_cases hm : after ∈ v.ids
    · have he : elemV v after = .tup [.v (.int .i64 (ixN v.ids after : Int)), .v (.bool true)] := by unfold elemV; rw [if_pos ⟨h6, hm⟩]
      have hk0 : plK v after = ixN v.ids after + 1 := by unfold plK; rw [if_neg h0, if_pos hm]
      have hw : IntKind.i64.wrap ((ixN v.ids after : Int) + 1) = ((ixN v.ids after + 1 : Nat) : Int) := by
        have := ix_lt hm
        exact IntWalk.i64_in _ ⟨by omega, by omega⟩
      rw [hk0] at hkl
      (simp (disch := first | decide | omega | (simp only [nx]; first | done | omega)) only [go_sem, he, hw, u4]; (repeat with_reducible refine aI ?_))
      
      have l1' := hT0.lt hO0.obn
      have l2' := hT0.lt hO0.obi
      have l3' := hT0.lt hO0.obp
      have e1 : S.next ≠ T0.next := by omega
      have e2 : S.next ≠ b := by omega
      have e3 : S.next ≠ c := by omega
      have e4 : S.next + 1 ≠ T0.next := by omega
      have e5 : S.next + 1 ≠ b := by omega
      have e6 : S.next + 1 ≠ c := by omega
      have e7 : S.next + 1 + 1 ≠ T0.next := by omega
      have e8 : S.next + 1 + 1 ≠ b := by omega
      have e9 : S.next + 1 + 1 ≠ c := by omega
      have f1 : S.next ≠ T0.next + 1 := by omega
      have f2 : S.next + 1 ≠ T0.next + 1 := by omega
      have f3 : S.next + 1 + 1 ≠ T0.next + 1 := by omega
      have g1 : c ≠ T0.next := by omega
      have g2 : c ≠ b := fun e => hO.bc e.symm
      have g3 : c ≠ S.next := by omega
      refine ins_u64 (k := b) (c := cb) (zs := zi) (es := v.ids.map u64D) (x := u64D id) (i := (ixN v.ids after + 1)) hO0.obi hO0.li (wUs _) rfl (by rw [List.length_map]; exact hkl) (by rw [List.length_map]; omega) (by omega) (by rw [List.length_map]) fun cb' zi' h1 h2 => ?_
      rw [List.length_map] at h1
      (simp (disch := first | decide | omega | (simp only [nx]; first | done | omega)) only [go_sem, u4, u7, u8, e1, e2, e3, e4, e5, e6, e7, e8, e9]; (repeat with_reducible refine aI ?_))
      refine ins_val (k := c) (c := cc) (zs := zp) (es := v.parts.map encV) (x := encV x) (i := (ixN v.ids after + 1)) (by (first | (simp (disch := first | decide | omega | (simp only [nx]; first | done | omega)) only [go_sem, hO0.obp, g1, g2, g3]; first | done | rfl) | rfl)) hO0.lp (wVs _) (cells_encV x) (by rw [List.length_map]; omega) (by rw [List.length_map]; omega) (by show c < T0.next + 1; omega) (by rw [List.length_map]) fun cc' zp' h3 h4 => ?_
      rw [List.length_map] at h3
      (simp (disch := first | decide | omega | (simp only [nx]; first | done | omega)) only [go_sem, u4, u7, u8, e1, e2, e3, e4, e5, e6, e7, e8, e9, f1, f2, f3]; (repeat with_reducible refine aI ?_))
      have n1 : a ≠ b := hO.ab
      have n2 : a ≠ c := hO.ac
      have n3 : a ≠ T0.next := by omega
      have n4 : a ≠ T0.next + 1 := by omega
      have n5 : a ≠ S.next := by omega
      have n6 : a ≠ S.next + 1 + 1 := by omega
      have n7 : T0.next ≠ c := by omega
      have n8 : T0.next ≠ S.next := by omega
      have n9 : T0.next ≠ S.next + 1 + 1 := by omega
      have m1 : T0.next + 1 ≠ S.next := by omega
      have m2 : T0.next + 1 ≠ S.next + 1 + 1 := by omega
      refine K_eq ?_ (hK _ T0.next (T0.next + 1) cb' cc' zi' zp' ?_ ?_ (by omega) (by omega) ⟨?_, hO.ln, ?_, ?_, ?_, ?_, by omega, by omega, by omega⟩)
      · rw [ownV, plV_ilen, plV_plen hl]; rfl
      · exact (((((((hF0.mono fun _ _ => trivial).drop hS (.inl fun h => h.1 rfl)).add hS).set hS (.inr (by omega))).drop hS (.inl fun h => h.2 rfl)).add hS).set hS (.inr (by omega))).set hS (.inr (by omega))
      · exact (((((hT0.drop _).add _).set (by show S.next < T0.next + 1; omega) _).drop _).add _).set (by show S.next < T0.next + 1 + 1; omega) _ |>.set (by show S.next + 1 + 1 < T0.next + 1 + 1; omega) _
      · have := hO0.obn
        (first | (simp (disch := first | decide | omega | (simp only [nx]; first | done | omega)) only [go_sem, this, n1, n2, n3, n4, n5, n6]; first | done | rfl) | rfl)
      · rw [plV_ids, hk0]
        (first | (simp (disch := first | decide | omega | (simp only [nx]; first | done | omega)) only [go_sem, n7, n8, n9, e1]; first | done | rfl) | rfl)
      · rw [plV_ids, hk0]
        exact h2
      · rw [plV_parts, hk0]
        (first | (simp (disch := first | decide | omega | (simp only [nx]; first | done | omega)) only [go_sem, m1, m2]; first | done | rfl) | rfl)
      · rw [plV_parts, hk0]
        exact h4

    · have he : elemV v after = .tup [.v (.int .i64 0), .v (.bool false)] := by unfold elemV; rw [if_neg (fun h => hm h.2)]
      have hk0 : plK v after = v.ids.length := by unfold plK; rw [if_neg h0, if_neg hm]
      rw [hk0] at hkl
      (simp (disch := first | decide | omega | (simp only [nx]; first | done | omega)) only [go_sem, he, u4]; (repeat with_reducible refine aI ?_))
      
      have l1' := hT0.lt hO0.obn
      have l2' := hT0.lt hO0.obi
      have l3' := hT0.lt hO0.obp
      have e1 : S.next ≠ T0.next := by omega
      have e2 : S.next ≠ b := by omega
      have e3 : S.next ≠ c := by omega
      have e4 : S.next + 1 ≠ T0.next := by omega
      have e5 : S.next + 1 ≠ b := by omega
      have e6 : S.next + 1 ≠ c := by omega
      have e7 : S.next + 1 + 1 ≠ T0.next := by omega
      have e8 : S.next + 1 + 1 ≠ b := by omega
      have e9 : S.next + 1 + 1 ≠ c := by omega
      have f1 : S.next ≠ T0.next + 1 := by omega
      have f2 : S.next + 1 ≠ T0.next + 1 := by omega
      have f3 : S.next + 1 + 1 ≠ T0.next + 1 := by omega
      have g1 : c ≠ T0.next := by omega
      have g2 : c ≠ b := fun e => hO.bc e.symm
      have g3 : c ≠ S.next := by omega
      refine ins_u64 (k := b) (c := cb) (zs := zi) (es := v.ids.map u64D) (x := u64D id) (i := v.ids.length) hO0.obi hO0.li (wUs _) rfl (by rw [List.length_map]; exact hkl) (by rw [List.length_map]; omega) (by omega) (by rw [List.length_map]) fun cb' zi' h1 h2 => ?_
      rw [List.length_map] at h1
      (simp (disch := first | decide | omega | (simp only [nx]; first | done | omega)) only [go_sem, u4, u7, u8, e1, e2, e3, e4, e5, e6, e7, e8, e9]; (repeat with_reducible refine aI ?_))
      refine ins_val (k := c) (c := cc) (zs := zp) (es := v.parts.map encV) (x := encV x) (i := v.ids.length) (by (first | (simp (disch := first | decide | omega | (simp only [nx]; first | done | omega)) only [go_sem, hO0.obp, g1, g2, g3]; first | done | rfl) | rfl)) hO0.lp (wVs _) (cells_encV x) (by rw [List.length_map]; omega) (by rw [List.length_map]; omega) (by show c < T0.next + 1; omega) (by rw [List.length_map]) fun cc' zp' h3 h4 => ?_
      rw [List.length_map] at h3
      (simp (disch := first | decide | omega | (simp only [nx]; first | done | omega)) only [go_sem, u4, u7, u8, e1, e2, e3, e4, e5, e6, e7, e8, e9, f1, f2, f3]; (repeat with_reducible refine aI ?_))
      have n1 : a ≠ b := hO.ab
      have n2 : a ≠ c := hO.ac
      have n3 : a ≠ T0.next := by omega
      have n4 : a ≠ T0.next + 1 := by omega
      have n5 : a ≠ S.next := by omega
      have n6 : a ≠ S.next + 1 + 1 := by omega
      have n7 : T0.next ≠ c := by omega
      have n8 : T0.next ≠ S.next := by omega
      have n9 : T0.next ≠ S.next + 1 + 1 := by omega
      have m1 : T0.next + 1 ≠ S.next := by omega
      have m2 : T0.next + 1 ≠ S.next + 1 + 1 := by omega
      refine K_eq ?_ (hK _ T0.next (T0.next + 1) cb' cc' zi' zp' ?_ ?_ (by omega) (by omega) ⟨?_, hO.ln, ?_, ?_, ?_, ?_, by omega, by omega, by omega⟩)
      · rw [ownV, plV_ilen, plV_plen hl]; rfl
      · exact (((((((hF0.mono fun _ _ => trivial).drop hS (.inl fun h => h.1 rfl)).add hS).set hS (.inr (by omega))).drop hS (.inl fun h => h.2 rfl)).add hS).set hS (.inr (by omega))).set hS (.inr (by omega))
      · exact (((((hT0.drop _).add _).set (by show S.next < T0.next + 1; omega) _).drop _).add _).set (by show S.next < T0.next + 1 + 1; omega) _ |>.set (by show S.next + 1 + 1 < T0.next + 1 + 1; omega) _
      · have := hO0.obn
        (first | (simp (disch := first | decide | omega | (simp only [nx]; first | done | omega)) only [go_sem, this, n1, n2, n3, n4, n5, n6]; first | done | rfl) | rfl)
      · rw [plV_ids, hk0]
        (first | (simp (disch := first | decide | omega | (simp only [nx]; first | done | omega)) only [go_sem, n7, n8, n9, e1]; first | done | rfl) | rfl)
      · rw [plV_ids, hk0]
        exact h2
      · rw [plV_parts, hk0]
        (first | (simp (disch := first | decide | omega | (simp only [nx]; first | done | omega)) only [go_sem, m1, m2]; first | done | rfl) | rfl)
      · rw [plV_parts, hk0]
        exact h4

end Go.Proofs.YtjjhjhjphhpeiaaGreatDoor

namespace Go.Proofs.YtjjhjhjphhpeiaaGreatDoor
open Go.RowKit
theorem tkV_ids (v : DVal) (k : Nat) : (tkV v k).ids.map u64D = (v.ids.map u64D).take k ++ (v.ids.map u64D).drop (k + 1) := by
  simp only [tkV, DVal.ofList, DVal.ids, List.map_append, List.map_take, List.map_drop]
theorem tkV_parts (v : DVal) (k : Nat) : (tkV v k).parts.map encV = (v.parts.map encV).take k ++ (v.parts.map encV).drop (k + 1) := by
  simp only [tkV, DVal.ofList, DVal.parts, List.map_append, List.map_take, List.map_drop]
theorem del_len {α : Type} (l : List α) {k : Nat} (h : k < l.length) : (l.take k ++ l.drop (k + 1)).length = l.length - 1 := by
  simp only [List.length_append, List.length_take, List.length_drop]; omega
theorem tkV_ilen {v : DVal} {k : Nat} (h : k < v.ids.length) : (tkV v k).ids.length = v.ids.length - 1 := del_len _ h
theorem tkV_plen {v : DVal} {k : Nat} (h : k < v.parts.length) : (tkV v k).parts.length = v.parts.length - 1 := del_len _ h
set_option maxRecDepth 200000 in
set_option maxHeartbeats 8000000 in
theorem take_o {S : St} {K : D → St → Prop} (v : DVal) (k : Nat) (a b c ca cb cc : Nat) {zn zi zp : List D} (hO : OV S v a b c ca cb cc zn zi zp) (hk : k < v.ids.length) (hl : v.parts.length = v.ids.length) (hn : v.ids.length ≤ 1000000)
    (hK : ∀ T zi' zp', Fz (fun j => j ≠ b ∧ j ≠ c) S T → T.WF → OV T (tkV v k) a b c ca cb cc zn zi' zp' → K (ownV (tkV v k) a b c ca cb cc) T) :
    DCalls Tryz.prog 149 [ownV v a b c ca cb cc, .v (.int .i64 (k : Int))] S K := by
  refine dcalls_inline mixed Tryz.func149 rfl (fun _ _ => by kernel_rfl) (rs := [.cell 4 29]) rfl (by kernel_rfl) (fun hS => ?_)
  have l1 := hS.lt hO.obn
  have l2 := hS.lt hO.obi
  have l3 := hS.lt hO.obp
  have w1 : IntKind.i64.wrap ((k : Int) + 1) = ((k + 1 : Nat) : Int) := IntWalk.i64_in _ ⟨by omega, by omega⟩
  have e1 : b ≠ S.next := by omega
  have e2 : b ≠ S.next + 1 := by omega
  have e3 : c ≠ S.next := by omega
  have e4 : c ≠ S.next + 1 := by omega
  have e5 : a ≠ S.next := by omega
  have e6 : a ≠ S.next + 1 := by omega
  have n1 := hO.ab
  have n2 := hO.ac
  have n3 := hO.bc
  have n4 : b ≠ a := fun e => n1 e.symm
  have n5 : c ≠ a := fun e => n2 e.symm
  have n6 : c ≠ b := fun e => n3 e.symm
  have e1' : S.next ≠ b := by omega
  have e2' : S.next + 1 ≠ b := by omega
  have e3' : S.next ≠ c := by omega
  have e4' : S.next + 1 ≠ c := by omega
  (simp (disch := first | decide | omega | (simp only [nx]; first | done | omega)) only [go_sem, ownV, w1]; (repeat with_reducible refine aI ?_))
  refine del_u64 (k := b) (c := cb) (zs := zi) (es := v.ids.map u64D) (i := k) (by (first | (simp (disch := first | decide | omega | (simp only [nx]; first | done | omega)) only [go_sem, hO.obi, e1, e2]; first | done | rfl) | rfl)) hO.li (wUs _) (by rw [List.length_map]; omega) (by rw [List.length_map]; omega) (by rw [List.length_map]) fun zi' h2 => ?_
  (simp (disch := first | decide | omega | (simp only [nx]; first | done | omega)) only [go_sem, w1, e1', e2', e3', e4']; (repeat with_reducible refine aI ?_))
  refine del_val (k := c) (c := cc) (zs := zp) (es := v.parts.map encV) (i := k) (by (first | (simp (disch := first | decide | omega | (simp only [nx]; first | done | omega)) only [go_sem, hO.obp, e3, e4, n6]; first | done | rfl) | rfl)) hO.lp (wVs _) (by rw [List.length_map]; omega) (by rw [List.length_map]; omega) (by rw [List.length_map]) fun zp' h4 => ?_
  (simp (disch := first | decide | omega | (simp only [nx]; first | done | omega)) only [go_sem, w1, e1', e2', e3', e4']; (repeat with_reducible refine aI ?_))
  refine K_eq ?_ (hK _ zi' zp' ?_ ?_ ⟨?_, hO.ln, ?_, ?_, ?_, ?_, n1, n2, n3⟩)
  · rw [ownV, tkV_ilen hk, tkV_plen (by omega)]; rfl
  · exact ((((((Fz.refl _ S).add hS).add hS).set hS (.inl fun h => h.1 rfl)).set hS (.inr (by omega))).set hS (.inl fun h => h.2 rfl)).set hS (.inr (by omega)) |>.set hS (.inr (by omega))
  · exact ((((((hS.add _).add _).set (by show b < S.next + 1 + 1; omega) _).set (by show S.next < S.next + 1 + 1; omega) _).set (by show c < S.next + 1 + 1; omega) _).set (by show S.next < S.next + 1 + 1; omega) _).set (by show S.next + 1 < S.next + 1 + 1; omega) _
  · (first | (simp (disch := first | decide | omega | (simp only [nx]; first | done | omega)) only [go_sem, hO.obn, n1, n2, e5, e6]; first | done | rfl) | rfl)
  · rw [tkV_ids]
    (first | (simp (disch := first | decide | omega | (simp only [nx]; first | done | omega)) only [go_sem, n3, e1, e2]; first | done | rfl) | rfl)
  · rw [tkV_ids]
    exact h2
  · rw [tkV_parts]
    (first | (simp (disch := first | decide | omega | (simp only [nx]; first | done | omega)) only [go_sem, e3, e4]; first | done | rfl) | rfl)
  · rw [tkV_parts]
    exact h4
theorem flat_at {es zs : List D} {z i : Nat} (hw : ∀ d ∈ es, d.width = z) (hi : i < es.length) : ((flat es ++ zs).drop (i * z)).take z = es[i].cells := by
  have h1 : (flat es).length = es.length * z := dflat_length hw
  have h2 : i * z ≤ es.length * z := Nat.mul_le_mul_right _ (by omega)
  have h3 : es[i].cells.length = z := hw _ (List.getElem_mem hi)
  rw [List.drop_append_of_le_length (by omega), flat_drop hw, List.drop_eq_getElem_cons hi, flat_cons, List.append_assoc, List.take_append_of_le_length (by omega), List.take_of_length_le (by omega)]
theorem OV.set {T : St} {v : DVal} {a b c ca cb cc k : Nat} {zn zi zp : List D} {o : Ob} (h : OV T v a b c ca cb cc zn zi zp) (h1 : a ≠ k) (h2 : b ≠ k) (h3 : c ≠ k) : OV (T.set k o) v a b c ca cb cc zn zi zp :=
  ⟨by simp [St.set, h1, h.obn], h.ln, by simp [St.set, h2, h.obi], h.li, by simp [St.set, h3, h.obp], h.lp, h.ab, h.ac, h.bc⟩
theorem OV.add {T : St} (hT : T.WF) {v : DVal} {a b c ca cb cc : Nat} {zn zi zp : List D} {o : Ob} (h : OV T v a b c ca cb cc zn zi zp) : OV (T.add o) v a b c ca cb cc zn zi zp := h.fz ((Fz.refl _ T).add hT)
def elK (o : DOp) (v : DVal) : Nat := ixN v.ids o.id
def lsV (o : DOp) (v : DVal) : DVal :=
  if o.kind = 2 then (if o.id ∉ v.ids ∧ v.ids.length < 12 then plV v o.id o.after o.val else v)
  else if o.id ∉ v.ids then v
  else if o.kind = 4 then plV (tkV v (elK o v)) o.id o.after (v.parts.getD (elK o v) default)
  else tkV v (elK o v)
set_option maxRecDepth 200000 in
set_option maxHeartbeats 8000000 in
theorem list_o {S : St} {K : D → St → Prop} (o : DOp) (v : DVal) (a b c ca cb cc : Nat) {zn zi zp : List D} (hO : OV S v a b c ca cb cc zn zi zp) (h6 : v.kind = 6) (hl : v.parts.length = v.ids.length) (hn : v.ids.length ≤ 1000000) (how : o.val.weight ≤ 1000000) (hnn : v.names.length ≤ 1000000)
    (hK : ∀ T b' c' cb' cc' zi' zp', Fz (fun j => j ≠ b ∧ j ≠ c) S T → T.WF → (b' = b ∨ S.next ≤ b') → (c' = c ∨ S.next ≤ c') → OV T (lsV o v) a b' c' ca cb' cc' zn zi' zp' → K (ownV (lsV o v) a b' c' ca cb' cc') T) :
    DCalls Tryz.prog 122 [encO o, ownV v a b c ca cb cc] S K := by
  refine dcalls_inline mixed Tryz.func122 rfl (fun _ _ => by kernel_rfl) (rs := [.cell 4 29]) rfl (by kernel_rfl) (fun hS => ?_)
  have l1 := hS.lt hO.obn
  have l2 := hS.lt hO.obi
  have l3 := hS.lt hO.obp
  have n1 := hO.ab
  have n2 := hO.ac
  have n3 := hO.bc
  (simp (disch := first | decide | omega | (simp only [nx]; first | done | omega)) only [go_sem, opCs]; (repeat with_reducible refine aI ?_))
  have hFa : Fz (fun _ => True) S (((S.add (.box 44 (opCs .no o))).add (.box 29 (ownV v a b c ca cb cc).cells)).add (.box 29 [.v (.int .i64 0), .v (.int .i64 0), .v (.string ⟨#[]⟩), .sl .full [], .sl .full [], .sl .full []])) := (((Fz.refl _ S).add hS).add hS).add hS
  refine (elem_o v a b c ca cb cc (hO.fz hFa) o.id (by omega)).mono ?_
  rintro d T0 ⟨rfl, hFz, hT0⟩
  have hF0 : Fz (fun _ => True) S T0 := hFa.trans hFz
  have hn0 : S.next + 1 + 1 + 1 ≤ T0.next := hFz.next
  have u2 : T0.ob S.next = some (.box 44 (opCs .no o)) := hFz.ob _ _ trivial (by (first | (simp (disch := first | decide | omega | (simp only [nx]; first | done | omega)) only [go_sem, opCs]; first | done | rfl) | rfl))
  have u3 : T0.ob (S.next + 1) = some (.box 29 (ownV v a b c ca cb cc).cells) := hFz.ob _ _ trivial (by (first | (simp (disch := first | decide | omega | (simp only [nx]; first | done | omega)) only [go_sem]; first | done | rfl) | rfl))
  have u4 : T0.ob (S.next + 1 + 1) = some (.box 29 [.v (.int .i64 0), .v (.int .i64 0), .v (.string ⟨#[]⟩), .sl .full [], .sl .full [], .sl .full []]) := hFz.ob _ _ trivial (by (first | (simp (disch := first | decide | omega | (simp only [nx]; first | done | omega)) only [go_sem]; first | done | rfl) | rfl))
  have hO0 := hO.fz hF0
  have e1 : S.next ≠ b := by omega
  have e2 : S.next ≠ c := by omega
  have e3 : S.next + 1 ≠ b := by omega
  have e4 : S.next + 1 ≠ c := by omega
  have e5 : S.next + 1 + 1 ≠ b := by omega
  have e6 : S.next + 1 + 1 ≠ c := by omega
  by_cases hm : o.id ∈ v.ids
  · have he : elemV v o.id = .tup [.v (.int .i64 (ixN v.ids o.id : Int)), .v (.bool true)] := by unfold elemV; rw [if_pos ⟨h6, hm⟩]
    have hk := ix_lt hm
    by_cases k2 : o.kind = 2
    · have b2 : (o.kind == 2) = true := by simp [k2]
      (simp (disch := first | decide | omega | (simp only [nx]; first | done | omega)) only [go_sem, he, u2, u3, u4, b2, opCs]; (repeat with_reducible refine aI ?_))
      have hs : lsV o v = v := by rw [lsV, if_pos k2, if_neg (fun h => h.1 hm)]
      rw [hs] at hK
      exact hK _ b c cb cc zi zp ((hF0.mono fun _ _ => trivial).set hS (.inr (by omega))) (hT0.set (by omega) _) (.inl rfl) (.inl rfl) (hO0.set (by omega) (by omega) (by omega))
    · have b2 : (o.kind == 2) = false := by simp [k2]
      by_cases k4 : o.kind = 4
      · have b4 : (o.kind == 4) = true := by simp [k4]
        have hob := hO0.obp
        rw [ownOb_box (by have := ownOb_len (wVs v.parts) (by omega) hO.lp; rw [List.length_map] at this; omega)] at hob
        have hpl : ixN v.ids o.id < v.parts.length := by omega
        have hfa := flat_at (zs := zp) (wVs v.parts) (i := ixN v.ids o.id) (by rw [List.length_map]; exact hpl)
        rw [List.getElem_map] at hfa
        have hfl : ixN v.ids o.id * 6 + 6 ≤ (flat (v.parts.map encV) ++ zp).length := by
          rw [List.length_append, dflat_length (wVs v.parts), List.length_map]
          have : (ixN v.ids o.id + 1) * 6 ≤ v.parts.length * 6 := Nat.mul_le_mul_right _ hpl
          omega
        have hs : lsV o v = plV (tkV v (ixN v.ids o.id)) o.id o.after v.parts[ixN v.ids o.id] := by rw [lsV, if_neg k2, if_neg (fun h => h hm), if_pos k4, elK, getD_at hpl]
        rw [hs] at hK
        have q1 : S.next ≠ T0.next := by omega
        have q2 : S.next + 1 ≠ T0.next := by omega
        have q3 : S.next + 1 + 1 ≠ T0.next := by omega
        (simp (disch := first | decide | omega | (simp only [nx]; first | done | omega)) only [go_sem, he, u2, u3, u4, b2, b4, opCs, hob, hfa, q1, q2, q3]; (repeat with_reducible refine aI ?_))
        obtain ⟨T2, hT2e⟩ : ∃ T2, (T0.add (.box 29 [.v (.int .i64 0), .v (.int .i64 0), .v (.string ⟨#[]⟩), .sl .full [], .sl .full [], .sl .full []])).set T0.next (.box 29 (encV v.parts[ixN v.ids o.id]).cells) = T2 := ⟨_, rfl⟩
        have hT2 : T2.WF := by rw [← hT2e]; exact (hT0.add _).set (by show T0.next < T0.next + 1; omega) _
        have hF2 : Fz (fun _ => True) T0 T2 := by rw [← hT2e]; exact ((Fz.refl _ T0).add hT0).set hT0 (.inr (Nat.le_refl _))
        have hn2 : T2.next = T0.next + 1 := by rw [← hT2e]; rfl
        have w2 := hF2.ob _ _ trivial u2
        have w3 := hF2.ob _ _ trivial u3
        have w4 := hF2.ob _ _ trivial u4
        have w7 : T2.ob T0.next = some (.box 29 (encV v.parts[ixN v.ids o.id]).cells) := by rw [← hT2e]; (first | (simp (disch := first | decide | omega | (simp only [nx]; first | done | omega)) only [go_sem]; first | done | rfl) | rfl)
        have hO2 := hO0.fz hF2
        rw [hT2e]
        refine ddraw_any (fun S' => S'.ob S.next = some (.box 44 (opCs .no o)) ∧ S'.ob (S.next + 1) = some (.box 29 (ownV v a b c ca cb cc).cells) ∧ S'.ob T0.next = some (.box 29 (encV v.parts[ixN v.ids o.id]).cells)) 8 (by (first | (simp (disch := first | decide | omega | (simp only [nx]; first | done | omega)) only [go_sem, w2, w3, w7]; first | done | rfl) | rfl)) (by kernel_rfl) ?_
        (refine s_take 0 rfl (by kernel_rfl) (by kernel_rfl) (v := ?v1) (fun S' hz => dquietR_of ?h1) <| s_take 1 rfl (by kernel_rfl) (by kernel_rfl) (v := ?v2) (fun S' hz => dquietR_of ?h2) <| s_take 3 rfl (by kernel_rfl) (by kernel_rfl) (v := ?v3) (fun S' hz => dquietR_of ?h3) <| s_take 4 rfl (by kernel_rfl) (by kernel_rfl) (v := ?v4) (fun S' hz => dquietR_of ?h4) <| s_take 5 rfl (by kernel_rfl) (by kernel_rfl) (v := ?v5) (fun S' hz => dquietR_of ?h5) <| s_take 6 rfl (by kernel_rfl) (by kernel_rfl) (v := ?v6) (fun S' hz => dquietR_of ?h6) <| s_take 7 rfl (by kernel_rfl) (by kernel_rfl) (v := ?v7) (fun S' hz => dquietR_of ?h7) <| ?k7; (case h1 | h2 | h3 | h4 | h5 | h6 | h7 => ((simp (disch := first | decide | omega | (simp only [nx]; first | done | omega)) only [go_sem, opCs, hz]; (repeat with_reducible refine aI ?_)); first | done | exact rfl | omega)))
        (refine s_split [2] (by kernel_rfl) (by simp) ?_; intro j_ hj_; obtain rfl : j_ = 2 := (by simpa using hj_); clear hj_; refine s_op rfl ?_; (simp (disch := first | decide | omega | (simp only [nx]; first | done | omega)) only [go_sem, w3]; (repeat with_reducible refine aI ?_)))
        refine take_o v (ixN v.ids o.id) a b c ca cb cc hO2 hk hl hn fun T3 zi' zp' hF3 hT3 hO3 => ?_
        have q4 : T0.next ≠ b := by omega
        have q5 : T0.next ≠ c := by omega
        have x2 := hF3.ob _ _ ⟨e1, e2⟩ w2
        have x3 := hF3.ob _ _ ⟨e3, e4⟩ w3
        have x4 := hF3.ob _ _ ⟨e5, e6⟩ w4
        have x7 := hF3.ob _ _ ⟨q4, q5⟩ w7
        have hn3 := hF3.next
        refine ⟨⟨x2, x3, x7⟩, ?_⟩
        (refine s_done (by kernel_rfl) ?_; (simp (disch := first | decide | omega | (simp only [nx]; first | done | omega)) only [go_sem, x2, x3, x7, opCs]; (repeat with_reducible refine aI ?_)))
        have t1 := tkV_ilen hk
        have t2 := tkV_plen hpl
        refine place_o (tkV v (ixN v.ids o.id)) v.parts[ixN v.ids o.id] o.id o.after a b c ca cb cc hO3 h6 (by omega) (by omega) fun T1 b' c' cb' cc' zi' zp' hF1 hT1 hb1 hc1 hO1 => ?_
        have v3 := hF1.ob _ _ ⟨e3, e4⟩ x3
        have v4 := hF1.ob _ _ ⟨e5, e6⟩ x4
        have hn1 := hF1.next
        (simp (disch := first | decide | omega | (simp only [nx]; first | done | omega)) only [go_sem, v3, v4]; (repeat with_reducible refine aI ?_))
        exact hK _ b' c' cb' cc' zi' zp' ((((((hF0.trans hF2).mono fun _ _ => trivial).trans hF3).trans hF1).set hS (.inr (by omega))).set hS (.inr (by omega))) ((hT1.set (by omega) _).set (by show S.next + 1 + 1 < T1.next; omega) _)  (.inr (by omega)) (.inr (by omega)) ((hO1.set (k := S.next + 1) (by omega) (by omega) (by omega)).set (k := S.next + 1 + 1) (by omega) (by omega) (by omega))
      · have b4 : (o.kind == 4) = false := by simp [k4]
        (simp (disch := first | decide | omega | (simp only [nx]; first | done | omega)) only [go_sem, he, u2, u3, u4, b2, b4, opCs]; (repeat with_reducible refine aI ?_))
        have hs : lsV o v = tkV v (ixN v.ids o.id) := by rw [lsV, if_neg k2, if_neg (fun h => h hm), if_neg k4]; rfl
        rw [hs] at hK
        refine take_o v (ixN v.ids o.id) a b c ca cb cc hO0 hk hl hn fun T1 zi' zp' hF1 hT1 hO1 => ?_
        have v3 := hF1.ob _ _ ⟨e3, e4⟩ u3
        have v4 := hF1.ob _ _ ⟨e5, e6⟩ u4
        have hn1 := hF1.next
        (simp (disch := first | decide | omega | (simp only [nx]; first | done | omega)) only [go_sem, v3, v4]; (repeat with_reducible refine aI ?_))
        exact hK _ b c cb cc zi' zp' ((((hF0.mono fun _ _ => trivial).trans hF1).set hS (.inr (by omega))).set hS (.inr (by omega))) ((hT1.set (by omega) _).set (by show S.next + 1 + 1 < T1.next; omega) _)  (.inl rfl) (.inl rfl) ((hO1.set (k := S.next + 1) (by omega) (by omega) (by omega)).set (k := S.next + 1 + 1) (by omega) (by omega) (by omega))
  · have he : elemV v o.id = .tup [.v (.int .i64 0), .v (.bool false)] := by unfold elemV; rw [if_neg (fun h => hm h.2)]
    by_cases k2 : o.kind = 2
    · have b2 : (o.kind == 2) = true := by simp [k2]
      by_cases h12 : v.ids.length < 12
      · have b3 : decide ((v.ids.length : Int) < 12) = true := by simp; omega
        (simp (disch := first | decide | omega | (simp only [nx]; first | done | omega)) only [go_sem, he, u2, u3, u4, b2, b3, opCs]; (repeat with_reducible refine aI ?_))
        have hs : lsV o v = plV v o.id o.after o.val := by rw [lsV, if_pos k2, if_pos ⟨hm, h12⟩]
        rw [hs] at hK
        refine ddraw_mk 8 (by kernel_rfl) ?_
        (simp (disch := first | decide | omega | (simp only [nx]; first | done | omega)) only [go_sem, u2, u3, u4, opCs]; (repeat with_reducible refine aI ?_))
        refine dqgo_mk (copyV_d o.val.depth o.val (Nat.le_refl _) how) ?_
        (simp (disch := first | decide | omega | (simp only [nx]; first | done | omega)) only [go_sem, u2, u3, u4, opCs]; (repeat with_reducible refine aI ?_))
        refine place_o v o.val o.id o.after a b c ca cb cc hO0 h6 hl hn fun T1 b' c' cb' cc' zi' zp' hF1 hT1 hb1 hc1 hO1 => ?_
        have v3 := hF1.ob _ _ ⟨e3, e4⟩ u3
        have v4 := hF1.ob _ _ ⟨e5, e6⟩ u4
        have hn1 := hF1.next
        (simp (disch := first | decide | omega | (simp only [nx]; first | done | omega)) only [go_sem, v3, v4]; (repeat with_reducible refine aI ?_))
        exact hK _ b' c' cb' cc' zi' zp' ((((hF0.mono fun _ _ => trivial).trans hF1).set hS (.inr (by omega))).set hS (.inr (by omega))) ((hT1.set (by omega) _).set (by show S.next + 1 + 1 < T1.next; omega) _)  (.inr (by omega)) (.inr (by omega)) ((hO1.set (k := S.next + 1) (by omega) (by omega) (by omega)).set (k := S.next + 1 + 1) (by omega) (by omega) (by omega))
      · have b3 : decide ((v.ids.length : Int) < 12) = false := by simp; omega
        (simp (disch := first | decide | omega | (simp only [nx]; first | done | omega)) only [go_sem, he, u2, u3, u4, b2, b3, opCs]; (repeat with_reducible refine aI ?_))
        have hs : lsV o v = v := by rw [lsV, if_pos k2, if_neg (fun h => h12 h.2)]
        rw [hs] at hK
        exact hK _ b c cb cc zi zp ((hF0.mono fun _ _ => trivial).set hS (.inr (by omega))) (hT0.set (by omega) _) (.inl rfl) (.inl rfl) (hO0.set (by omega) (by omega) (by omega))
    · have b2 : (o.kind == 2) = false := by simp [k2]
      (simp (disch := first | decide | omega | (simp only [nx]; first | done | omega)) only [go_sem, he, u2, u3, u4, b2, opCs]; (repeat with_reducible refine aI ?_))
      have hs : lsV o v = v := by rw [lsV, if_neg k2, if_pos hm]
      rw [hs] at hK
      exact hK _ b c cb cc zi zp ((hF0.mono fun _ _ => trivial).set hS (.inr (by omega))) (hT0.set (by omega) _) (.inl rfl) (.inl rfl) (hO0.set (by omega) (by omega) (by omega))
end Go.Proofs.YtjjhjhjphhpeiaaGreatDoor

namespace Go.Proofs.YtjjhjhjphhpeiaaGreatDoor
open Go.RowKit
theorem weights_take_le (l : List DVal) : ∀ i, DVal.weights (l.take i) ≤ DVal.weights l := by
  induction l with
  | nil => intro i; simp [DVal.weights]
  | cons p l ih =>
    intro i
    cases i with
    | zero => simp [DVal.weights]
    | succ i => simp only [List.take_succ_cons, DVal.weights]; have := ih i; omega
end Go.Proofs.YtjjhjhjphhpeiaaGreatDoor

namespace Go.Proofs.YtjjhjhjphhpeiaaGreatDoor
open Go.RowKit
theorem valsEq_step (a b : DStp) : valsEq [sv a.1, .int .u64 a.2] [sv b.1, .int .u64 b.2] = decide (a = b) := by
  obtain ⟨a, n⟩ := a
  obtain ⟨b, m⟩ := b
  rw [Bool.eq_iff_iff]
  simp only [valsEq, cellEq, sv, strB, Go.Lib.toList_data, Bool.and_eq_true, beq_iff_eq, decide_eq_true_eq, Prod.mk.injEq, and_true]
  constructor
  · rintro ⟨h1, h2⟩; exact ⟨h1, by omega⟩
  · rintro ⟨h1, h2⟩; exact ⟨h1, by omega⟩
theorem eqOk_step {x y : Operand} (a b : DStp) : EqOk Tryz.prog .eql 79 x y [sv a.1, .int .u64 a.2] [sv b.1, .int .u64 b.2] (valsEq [sv a.1, .int .u64 a.2] [sv b.1, .int .u64 b.2]) ∧ EqOk Tryz.prog .neq 79 x y [sv a.1, .int .u64 a.2] [sv b.1, .int .u64 b.2] (!valsEq [sv a.1, .int .u64 a.2] [sv b.1, .int .u64 b.2]) := by
  obtain ⟨a, n⟩ := a
  obtain ⟨b, m⟩ := b
  constructor
  · intro w
    by_cases h1 : a = b <;> by_cases h2 : (n : Int) = (m : Int) <;> simp [valsEq, cellEq, go_sem, h1, h2]
  · intro w
    by_cases h1 : a = b <;> by_cases h2 : (n : Int) = (m : Int) <;> simp [valsEq, cellEq, go_sem, h1, h2]
section
variable {x y : Operand} (a b : DStp) {K : D → Prop} {K' : D → St → Prop} {S : St}
theorem bin_neqP : dbin Tryz.prog .neq 79 x y (encP a) (encP b) = some (EqOk Tryz.prog .neq 79 x y [sv a.1, .int .u64 a.2] [sv b.1, .int .u64 b.2] (!valsEq [sv a.1, .int .u64 a.2] [sv b.1, .int .u64 b.2]), .v (.bool (!decide (a = b)))) := by
  rw [← valsEq_step]; rfl
theorem onVal_neqP : onVal (dbin Tryz.prog .neq 79 x y (encP a) (encP b)) K = K (.v (.bool (!decide (a = b)))) := by
  rw [bin_neqP, onVal_some]; exact propext ⟨fun h => h.2, fun h => ⟨(eqOk_step a b).2, h⟩⟩
theorem onValS_neqP : onValS (dbin Tryz.prog .neq 79 x y (encP a) (encP b)) K' S = K' (.v (.bool (!decide (a = b)))) S := by
  rw [bin_neqP, onValS_some]; exact propext ⟨fun h => h.2, fun h => ⟨(eqOk_step a b).2, h⟩⟩
end
attribute [go_sem] onVal_neqP onValS_neqP
set_option maxRecDepth 200000 in
set_option maxHeartbeats 8000000 in
theorem refSameP_d (own own2 : Own) (p q : List DStp) (hp : p.length ≤ 1000000) (hq : q.length ≤ 1000000) : DPure Tryz.prog 15 [.sl own (p.map encP), .sl own2 (q.map encP)] (.v (.bool (decide (p = q)))) := by
  refine dpure_of_dwp mixed Tryz.func15 rfl (fun _ _ => by kernel_rfl) (rs := [.tmp 4]) rfl (by kernel_rfl) trivial (fun S hS => ?_)
  by_cases hl : p.length = q.length
  · have b0 : ((p.length : Int) != (q.length : Int)) = false := by simp [hl]
    (simp (disch := first | decide | omega | (simp only [nx]; first | done | omega)) only [go_sem, b0]; (repeat with_reducible refine aI ?_))
    (refine dloop_st (fun t => List.contains [4, 5, 11, 12, 13, 14, 15, 16, 17, 18, 19, 20, 21, 22, 23, 24, 25] t) (by kernel_rfl) ?_ (p.length) (fun i f => i ≤ p.length ∧ f 5 = .v (.int .i64 (i : Nat)) ∧ (∀ j, j < i → p[j]? = q[j]?)) ?_ ?_; (exact (by (repeat' first | assumption | refine St.WF.leave ?_ _ | refine St.WF.add ?_ _ | refine St.WF.set ?_ ?_ _ | refine St.WF.grow ?_ _ _ _ | refine St.WF.keep ?_ ?_ | (first | omega | (simp only [RowOk.lo, nx]; first | done | omega))))); (exact ⟨(by omega), (by (first | (simp (disch := first | decide | omega | (simp only [nx]; first | done | omega)) only [go_sem]; first | done | rfl) | rfl)), (fun j hj => by omega)⟩); intro i g tn hn hT hg hI; obtain ⟨le, q5, hsame⟩ := hI; have q0 := hg 0 rfl; have q1 := hg 1 rfl; simp (disch := first | decide | omega | (simp only [nx]; first | done | omega)) only [go_sem] at q0 q1; clear hg; have hn' := hn; try simp only [add_next, set_next, grow_next, leave_next, drop_next] at hn')
    by_cases hlt : i < p.length
    · have b1 : decide ((i : Int) < (p.length : Int)) = true := by simp; omega
      have w1 : IntKind.i64.wrap ((i : Int) + 1) = ((i + 1 : Nat) : Int) := IntWalk.i64_in _ ⟨by omega, by omega⟩
      have hlt2 : i < q.length := by omega
      (simp (disch := first | decide | omega | (simp only [nx]; first | done | omega)) only [go_sem, q0, q1, q5, b1]; (repeat with_reducible refine aI ?_))
      refine ddraw_mk 9 (by kernel_rfl) ?_
      by_cases hx : p[i] = q[i]
      · have b2 : (!decide (p[i] = q[i])) = false := by simp [hx]
        (simp (disch := first | decide | omega | (simp only [nx]; first | done | omega)) only [go_sem, q0, q1, q5, b1, b2, w1]; (repeat with_reducible refine aI ?_))
        (refine ⟨by omega, (by (repeat' first | assumption | exact St.Sub.refl _ | exact RowOk.sub (by assumption) (by assumption) | refine St.Sub.trans ?_ (RowOk.sub (by assumption) (by assumption)) | refine St.Sub.add ?_ ?_ _ | refine St.Sub.set ?_ ?_ ?_ _ | refine St.Sub.keep ?_ ?_ | refine St.WF.leave ?_ _ | refine St.WF.add ?_ _ | refine St.WF.set ?_ ?_ _ | refine St.WF.grow ?_ _ _ _ | refine St.WF.keep ?_ ?_ | (first | omega | (simp only [RowOk.lo, nx]; first | done | omega)))), ?_⟩; refine ⟨by omega, ?_, ?_⟩; all_goals (try (first | (simp (disch := first | decide | omega | (simp only [nx]; first | done | omega)) only [go_sem, w1]; first | done | rfl) | rfl)))
        intro j hj
        by_cases e : j = i
        · subst e; rw [List.getElem?_eq_getElem hlt, List.getElem?_eq_getElem hlt2, hx]
        · exact hsame j (by omega)
      · have b2 : (!decide (p[i] = q[i])) = true := by simp [hx]
        (simp (disch := first | decide | omega | (simp only [nx]; first | done | omega)) only [go_sem, q0, q1, q5, b1, b2]; (repeat with_reducible refine aI ?_))
        refine ⟨?_, (by (repeat' first | assumption | exact St.Sub.refl _ | exact RowOk.sub (by assumption) (by assumption) | refine St.Sub.trans ?_ (RowOk.sub (by assumption) (by assumption)) | refine St.Sub.add ?_ ?_ _ | refine St.Sub.set ?_ ?_ ?_ _ | refine St.Sub.keep ?_ ?_ | refine St.WF.leave ?_ _ | refine St.WF.add ?_ _ | refine St.WF.set ?_ ?_ _ | refine St.WF.grow ?_ _ _ _ | refine St.WF.keep ?_ ?_ | (first | omega | (simp only [RowOk.lo, nx]; first | done | omega))))⟩
        rw [decide_eq_false]
        · rfl
        · intro e; subst e; exact hx rfl
    · have b1 : decide ((i : Int) < (p.length : Int)) = false := by simp; omega
      (simp (disch := first | decide | omega | (simp only [nx]; first | done | omega)) only [go_sem, q0, q1, q5, b1]; (repeat with_reducible refine aI ?_))
      refine ⟨?_, (by (repeat' first | assumption | exact St.Sub.refl _ | exact RowOk.sub (by assumption) (by assumption) | refine St.Sub.trans ?_ (RowOk.sub (by assumption) (by assumption)) | refine St.Sub.add ?_ ?_ _ | refine St.Sub.set ?_ ?_ ?_ _ | refine St.Sub.keep ?_ ?_ | refine St.WF.leave ?_ _ | refine St.WF.add ?_ _ | refine St.WF.set ?_ ?_ _ | refine St.WF.grow ?_ _ _ _ | refine St.WF.keep ?_ ?_ | (first | omega | (simp only [RowOk.lo, nx]; first | done | omega))))⟩
      rw [decide_eq_true]
      · rfl
      · refine List.ext_getElem? fun j => ?_
        by_cases hj : j < i
        · exact hsame j hj
        · rw [List.getElem?_eq_none (by omega), List.getElem?_eq_none (by omega)]
  · have b0 : ((p.length : Int) != (q.length : Int)) = true := by simp; omega
    (simp (disch := first | decide | omega | (simp only [nx]; first | done | omega)) only [go_sem, b0]; (repeat with_reducible refine aI ?_))
    refine ⟨?_, (by (repeat' first | assumption | exact St.Sub.refl _ | exact RowOk.sub (by assumption) (by assumption) | refine St.Sub.trans ?_ (RowOk.sub (by assumption) (by assumption)) | refine St.Sub.add ?_ ?_ _ | refine St.Sub.set ?_ ?_ ?_ _ | refine St.Sub.keep ?_ ?_ | refine St.WF.leave ?_ _ | refine St.WF.add ?_ _ | refine St.WF.set ?_ ?_ _ | refine St.WF.grow ?_ _ _ _ | refine St.WF.keep ?_ ?_ | (first | omega | (simp only [RowOk.lo, nx]; first | done | omega))))⟩
    rw [decide_eq_false]
    · rfl
    · intro e; subst e; exact hl rfl
theorem refSameV_d (a b : DVal) (hoa : okV a) (hob : okV b) : DPure Tryz.prog 16 [encV a, encV b] (.v (.bool (eqB a b))) :=
  dpure_of_gives (fun _ _ => by kernel_rfl) fun w η X vs hr => by
    simp only [RepL] at hr
    obtain ⟨x, xs, rfl, h1, y, ys, rfl, h2, rfl⟩ := hr
    obtain ⟨cs, rfl, hv⟩ := val_of_rep a.depth a (Nat.le_refl _) hoa h1
    obtain ⟨ds, rfl, hw⟩ := val_of_rep b.depth b (Nat.le_refl _) hob h2
    exact refValSame_calls a.depth a b cs ds w (Nat.le_refl _) hv hw
end Go.Proofs.YtjjhjhjphhpeiaaGreatDoor

namespace Go.Proofs.YtjjhjhjphhpeiaaGreatDoor
open Go.RowKit
theorem bin_rem {P : Program} {t : TypeId} {x y : Operand} (k : IntKind) (a b : Int) (hb : b ≠ 0) : dbin P .rem t x y (.v (.int k a)) (.v (.int k b)) = some (True, .v (.int k (a.tmod b))) := by
  simp [dbin, eqGuard, binOp, Op.intDiv, pureRun_bind, pureRun_pure, hb]
end Go.Proofs.YtjjhjhjphhpeiaaGreatDoor

namespace Go.Proofs.YtjjhjhjphhpeiaaGreatDoor
open Go.RowKit
def greatP (p : List DStp) : Bool := decide (40 < p.length) || p.any fun q => decide (100 < q.1.length)
set_option maxRecDepth 200000 in
set_option maxHeartbeats 8000000 in
theorem greatP_d (p : List DStp) (own : Own) : DPure Tryz.prog 44 [.sl own (p.map encP)] (.v (.bool (greatP p))) := by
  refine dpure_of_dwp mixed Tryz.func44 rfl (fun _ _ => by kernel_rfl) (rs := [.tmp 2]) rfl (by kernel_rfl) trivial (fun S hS => ?_)
  by_cases hl : 40 < p.length
  · have b0 : decide ((40 : Int) < (p.length : Int)) = true := by simp; omega
    (simp (disch := first | decide | omega | (simp only [nx]; first | done | omega)) only [go_sem, b0]; (repeat with_reducible refine aI ?_))
    refine ⟨?_, (by (repeat' first | assumption | exact St.Sub.refl _ | exact RowOk.sub (by assumption) (by assumption) | refine St.Sub.trans ?_ (RowOk.sub (by assumption) (by assumption)) | refine St.Sub.add ?_ ?_ _ | refine St.Sub.set ?_ ?_ ?_ _ | refine St.Sub.keep ?_ ?_ | refine St.WF.leave ?_ _ | refine St.WF.add ?_ _ | refine St.WF.set ?_ ?_ _ | refine St.WF.grow ?_ _ _ _ | refine St.WF.keep ?_ ?_ | (first | omega | (simp only [RowOk.lo, nx]; first | done | omega))))⟩
    rw [greatP, decide_eq_true hl]; rfl
  · have b0 : decide ((40 : Int) < (p.length : Int)) = false := by simp; omega
    (simp (disch := first | decide | omega | (simp only [nx]; first | done | omega)) only [go_sem, b0]; (repeat with_reducible refine aI ?_))
    (refine dloop_st (fun t => List.contains [2, 3, 7, 8, 9, 10, 11, 12, 13, 14, 15, 16, 17, 18, 19] t) (by kernel_rfl) ?_ (p.length) (fun i f => i ≤ p.length ∧ f 3 = .v (.int .i64 (i : Nat)) ∧ (∀ j (hj : j < p.length), j < i → ¬ 100 < p[j].1.length)) ?_ ?_; (exact (by (repeat' first | assumption | refine St.WF.leave ?_ _ | refine St.WF.add ?_ _ | refine St.WF.set ?_ ?_ _ | refine St.WF.grow ?_ _ _ _ | refine St.WF.keep ?_ ?_ | (first | omega | (simp only [RowOk.lo, nx]; first | done | omega))))); (exact ⟨(by omega), (by (first | (simp (disch := first | decide | omega | (simp only [nx]; first | done | omega)) only [go_sem]; first | done | rfl) | rfl)), (fun j _ hj => by omega)⟩); intro i g tn hn hT hg hI; obtain ⟨le, q3, hno⟩ := hI; have q0 := hg 0 rfl; simp (disch := first | decide | omega | (simp only [nx]; first | done | omega)) only [go_sem] at q0; clear hg; have hn' := hn; try simp only [add_next, set_next, grow_next, leave_next, drop_next] at hn')
    by_cases hlt : i < p.length
    · have b1 : decide ((i : Int) < (p.length : Int)) = true := by simp; omega
      have w1 : IntKind.i64.wrap ((i : Int) + 1) = ((i + 1 : Nat) : Int) := IntWalk.i64_in _ ⟨by omega, by omega⟩
      by_cases hx : 100 < p[i].1.length
      · have b2 : decide ((100 : Int) < (p[i].1.length : Int)) = true := by simp; omega
        (simp (disch := first | decide | omega | (simp only [nx]; first | done | omega)) only [go_sem, q0, q3, b1, b2, strB_size]; (repeat with_reducible refine aI ?_))
        refine ⟨?_, (by (repeat' first | assumption | exact St.Sub.refl _ | exact RowOk.sub (by assumption) (by assumption) | refine St.Sub.trans ?_ (RowOk.sub (by assumption) (by assumption)) | refine St.Sub.add ?_ ?_ _ | refine St.Sub.set ?_ ?_ ?_ _ | refine St.Sub.keep ?_ ?_ | refine St.WF.leave ?_ _ | refine St.WF.add ?_ _ | refine St.WF.set ?_ ?_ _ | refine St.WF.grow ?_ _ _ _ | refine St.WF.keep ?_ ?_ | (first | omega | (simp only [RowOk.lo, nx]; first | done | omega))))⟩
        have h1 : (p.any fun q => decide (100 < q.1.length)) = true := List.any_eq_true.2 ⟨p[i], List.getElem_mem hlt, by simp [hx]⟩
        rw [greatP, h1, Bool.or_true]; rfl
      · have b2 : decide ((100 : Int) < (p[i].1.length : Int)) = false := by simp; omega
        (simp (disch := first | decide | omega | (simp only [nx]; first | done | omega)) only [go_sem, q0, q3, b1, b2, strB_size, w1]; (repeat with_reducible refine aI ?_))
        (refine ⟨by omega, (by (repeat' first | assumption | exact St.Sub.refl _ | exact RowOk.sub (by assumption) (by assumption) | refine St.Sub.trans ?_ (RowOk.sub (by assumption) (by assumption)) | refine St.Sub.add ?_ ?_ _ | refine St.Sub.set ?_ ?_ ?_ _ | refine St.Sub.keep ?_ ?_ | refine St.WF.leave ?_ _ | refine St.WF.add ?_ _ | refine St.WF.set ?_ ?_ _ | refine St.WF.grow ?_ _ _ _ | refine St.WF.keep ?_ ?_ | (first | omega | (simp only [RowOk.lo, nx]; first | done | omega)))), ?_⟩; refine ⟨by omega, ?_, ?_⟩; all_goals (try (first | (simp (disch := first | decide | omega | (simp only [nx]; first | done | omega)) only [go_sem, w1]; first | done | rfl) | rfl)))
        intro j hj hji
        by_cases e : j = i
        · subst e; exact hx
        · exact hno j hj (by omega)
    · have b1 : decide ((i : Int) < (p.length : Int)) = false := by simp; omega
      (simp (disch := first | decide | omega | (simp only [nx]; first | done | omega)) only [go_sem, q0, q3, b1]; (repeat with_reducible refine aI ?_))
      refine ⟨?_, (by (repeat' first | assumption | exact St.Sub.refl _ | exact RowOk.sub (by assumption) (by assumption) | refine St.Sub.trans ?_ (RowOk.sub (by assumption) (by assumption)) | refine St.Sub.add ?_ ?_ _ | refine St.Sub.set ?_ ?_ ?_ _ | refine St.Sub.keep ?_ ?_ | refine St.WF.leave ?_ _ | refine St.WF.add ?_ _ | refine St.WF.set ?_ ?_ _ | refine St.WF.grow ?_ _ _ _ | refine St.WF.keep ?_ ?_ | (first | omega | (simp only [RowOk.lo, nx]; first | done | omega))))⟩
      have h1 : (p.any fun q => decide (100 < q.1.length)) = false := by
        rw [List.any_eq_false]
        intro q hq
        obtain ⟨j, hj, rfl⟩ := List.getElem_of_mem hq
        simpa using hno j hj (by omega)
      rw [greatP, decide_eq_false hl, h1]; rfl
end Go.Proofs.YtjjhjhjphhpeiaaGreatDoor

namespace Go.Proofs.YtjjhjhjphhpeiaaGreatDoor
open Go.RowKit
def IsU64 (n : Nat) : Prop := n < 18446744073709551616
def IsI64 (n : Int) : Prop := -9223372036854775808 ≤ n ∧ n < 9223372036854775808
theorem wrap_u64 (n : Nat) (h : IsU64 n) : IntKind.u64.wrap (n : Int) = n := by
  unfold IsU64 at h
  simp only [IntKind.wrap_u64]
  omega
theorem or80' : ∀ x : Fin 256, bits BinOp.or IntKind.u8 (x.val : Int) 128 = ((x.val % 128 + 128 : Nat) : Int) := by decide +kernel
theorem or80 (k : Nat) : bits BinOp.or IntKind.u8 ((k : Int) % 256) 128 = ((k % 128 + 128 : Nat) : Int) := by
  have h := or80' ⟨k % 256, by omega⟩
  simp only at h
  rw [show ((k : Int) % 256) = ((k % 256 : Nat) : Int) from by omega, h]
  omega
theorem xor_zig (n : Int) (h : IsI64 n) : bits BinOp.xor IntKind.u64 (IntKind.u64.wrap (IntKind.u64.wrap n * 2)) (IntKind.u64.wrap (n / 9223372036854775808)) = (zig n : Int) := by
  unfold IsI64 at h
  show IntKind.u64.wrap ((BitVec.ofInt 64 _ ^^^ BitVec.ofInt 64 _).toNat : Int) = _
  simp only [IntKind.wrap_u64]
  unfold zig
  by_cases h0 : n < 0
  · rw [if_pos h0, show n / 9223372036854775808 % 18446744073709551616 = 18446744073709551615 from by omega]
    rw [show BitVec.ofInt 64 18446744073709551615 = BitVec.allOnes 64 from by decide, BitVec.xor_allOnes, BitVec.toNat_not, BitVec.toNat_ofInt]
    omega
  · rw [if_neg h0, show n / 9223372036854775808 % 18446744073709551616 = 0 from by omega]
    rw [show BitVec.ofInt 64 0 = 0#64 from by decide, BitVec.xor_zero, BitVec.toNat_ofInt]
    omega
theorem zig_u64 (n : Int) (h : IsI64 n) : IsU64 (zig n) := by unfold IsI64 at h; unfold IsU64 zig; split <;> omega
section
variable {P : Program} {t : TypeId} {x y : Operand}
theorem bin_or (k : IntKind) (a b : Int) : dbin P .or t x y (.v (.int k a)) (.v (.int k b)) = some (True, .v (.int k (bits .or k a b))) := by
  simp [dbin, eqGuard, binOp, intBits_or, pureRun_bind, pureRun_pure]
theorem bin_xor (k : IntKind) (a b : Int) : dbin P .xor t x y (.v (.int k a)) (.v (.int k b)) = some (True, .v (.int k (bits .xor k a b))) := by
  simp [dbin, eqGuard, binOp, intBits_xor, pureRun_bind, pureRun_pure]
theorem bin_andNot (k : IntKind) (a b : Int) : dbin P .andNot t x y (.v (.int k a)) (.v (.int k b)) = some (True, .v (.int k (bits .andNot k a b))) := by
  simp [dbin, eqGuard, binOp, intBits_andNot, pureRun_bind, pureRun_pure]
theorem bin_shr7 (a : Nat) : dbin P .shr t x y (.v (.int .u64 a)) (.v (.int .u64 7)) = some (True, .v (.int .u64 ((a / 128 : Nat) : Int))) := by
  simp [dbin, eqGuard, binOp, shift_shr .u64 .u64 (a : Int) 7 (by omega) (by decide), pureRun_bind, pureRun_pure]
theorem bin_shr63 (a : Int) : dbin P .shr t x y (.v (.int .i64 a)) (.v (.int .u64 63)) = some (True, .v (.int .i64 (a / 9223372036854775808))) := by
  simp [dbin, eqGuard, binOp, shift_shr .i64 .u64 a 63 (by omega) (by decide), pureRun_bind, pureRun_pure]
theorem bin_shl1 (a : Int) : dbin P .shl t x y (.v (.int .u64 a)) (.v (.int .u64 1)) = some (True, .v (.int .u64 (IntKind.u64.wrap (a * 2)))) := by
  simp [dbin, eqGuard, binOp, Op.shift, IntKind.bits, pureRun_bind, pureRun_pure]
end
theorem cv_u64u8 (n : Int) : pureRun Tryz.prog (convert 42 5 (.int .u64 n)) = some (.int .u8 (IntKind.u8.wrap n)) := by kernel_rfl
theorem cv_i64u64 (n : Int) : pureRun Tryz.prog (convert 3 42 (.int .i64 n)) = some (.int .u64 (IntKind.u64.wrap n)) := by kernel_rfl
theorem cv_u64i64 (n : Int) : pureRun Tryz.prog (convert 42 3 (.int .u64 n)) = some (.int .i64 (IntKind.i64.wrap n)) := by kernel_rfl
theorem cv_u8u64 (n : Int) : pureRun Tryz.prog (convert 5 42 (.int .u8 n)) = some (.int .u64 (IntKind.u64.wrap n)) := by kernel_rfl
theorem cv_i64u8 (n : Int) : pureRun Tryz.prog (convert 3 5 (.int .i64 n)) = some (.int .u8 (IntKind.u8.wrap n)) := by kernel_rfl
theorem u8T_u8 : u8T Tryz.prog 5 = true := by kernel_rfl
attribute [go_sem] u8T_u8
attribute [go_sem] bin_or bin_xor bin_andNot bin_shr7 bin_shr63 bin_shl1 cv_u64u8 cv_i64u64 cv_u64i64 cv_u8u64 cv_i64u8
def WAt (k : Nat) (bs : List UInt8) (T : St) : Prop := ∃ own, T.ob k = some (.box 86 [.sl own (bs.map bD)]) ∧ ((own = .full ∧ bs = []) ∨ ∃ g, own = .row g ∧ k < g ∧ T.ob g = some (.row 5 bs.length))
structure WFr (k : Nat) (S T : St) : Prop where
  next : S.next ≤ T.next
  ob : ∀ j o, (j < k ∨ (j ≠ k ∧ ∃ t cs, o = .box t cs)) → S.ob j = some o → T.ob j = some o
theorem WFr.box {k : Nat} {S T : St} (h : WFr k S T) (j : Nat) (t : TypeId) (cs : List D) (hj : j ≠ k) (e : S.ob j = some (.box t cs)) : T.ob j = some (.box t cs) := h.ob j _ (.inr ⟨hj, t, cs, rfl⟩) e
theorem WFr.of_keep {k : Nat} {S T : St} (hn : S.next ≤ T.next) (h : ∀ j o, S.ob j = some o → T.ob j = some o) : WFr k S T := ⟨hn, fun j o _ e => h j o e⟩
theorem WFr.refl (k : Nat) (S : St) : WFr k S S := ⟨Nat.le_refl _, fun _ _ _ h => h⟩
theorem WFr.trans {k : Nat} {A B C : St} (h : WFr k A B) (g : WFr k B C) : WFr k A C := ⟨Nat.le_trans h.next g.next, fun j o hj e => g.ob j o hj (h.ob j o hj e)⟩
theorem wd_bD (l : List UInt8) : ∀ d ∈ l.map bD, d.width = szOf Tryz.prog 5 := by
  intro d hd
  obtain ⟨b, _, rfl⟩ := List.mem_map.1 hd
  exact Eq.trans rfl (by kernel_rfl : 1 = szOf Tryz.prog 5)
theorem dapp_bytes {S : St} {ty : TypeId} {own own2 : Own} {bs xs : List UInt8} {K : D → St → Prop} (h : (own = .full ∧ bs = []) ∨ ∃ g, own = .row g ∧ S.ob g = some (.row 5 bs.length)) (hl : bs.length + xs.length ≤ 1099511627776)
    (k : K (.sl (.row S.next) ((bs ++ xs).map bD)) (S.grow own 5 (bs.length + xs.length))) : dapp Tryz.prog S 53 53 ty (.sl own (bs.map bD)) (.sl own2 (xs.map bD)) K := by
  refine dapp_row ?_
  have he : elT Tryz.prog 53 = some 5 := by kernel_rfl
  have hb : bytesOf Tryz.prog 5 = 1 := by kernel_rfl
  have hz : zeroT Tryz.prog 5 = true := by kernel_rfl
  simp only [dappend, he, hz, hb, List.length_map, ← List.map_append, true_and, Option.isSome_some]
  refine ⟨wd_bD bs, wd_bD xs, ?_, by omega, by omega, k⟩
  rcases h with ⟨rfl, rfl⟩ | ⟨g, rfl, h⟩
  · trivial
  · exact h
set_option maxRecDepth 200000 in
set_option maxHeartbeats 4000000 in
theorem raw_w {S : St} {k : Nat} {bs : List UInt8} (own2 : Own) (xs : List UInt8) (hk : k < S.next) (h : WAt k bs S) (hl : bs.length + xs.length ≤ 1099511627776) : DCalls Tryz.prog 91 [.loc k 0, .sl own2 (xs.map bD)] S fun d T => d = undefD ∧ WAt k (bs ++ xs) T ∧ WFr k S T := by
  obtain ⟨own, h1, h2⟩ := h
  refine dcalls_inline mixed Tryz.func91 rfl (fun _ _ => by kernel_rfl) (rs := []) rfl (by kernel_rfl) (fun hS => ?_)
  (simp (disch := first | decide | omega | (simp only [nx]; first | done | omega)) only [go_sem, h1]; (repeat with_reducible refine aI ?_))
  have hk2 : (k = S.next) = False := by simp; omega
  rcases h2 with ⟨rfl, rfl⟩ | ⟨g, rfl, hg, h2⟩
  · refine dapp_bytes (.inl ⟨rfl, rfl⟩) (by omega) ?_
    (simp (disch := first | decide | omega | (simp only [nx]; first | done | omega)) only [go_sem, hk2, h1]; (repeat with_reducible refine aI ?_))
    refine ⟨⟨.row S.next, by simp [St.set], .inr ⟨S.next, rfl, by omega, ?_⟩⟩, ⟨by simp [St.set, St.grow, St.leave, St.add], fun j o hj e => ?_⟩⟩
    · simp [St.grow, St.leave, St.add, St.set, Ne.symm (show k ≠ S.next by omega)]
    · have hlt := hS.lt e
      have hj : j ≠ k := by rcases hj with h | h; omega; exact h.1
      simp [St.grow, St.leave, St.add, St.set, hj, show j ≠ S.next by omega, e]
  · have hkg : (k = g) = False := by simp; omega
    refine dapp_bytes (.inr ⟨g, rfl, h2⟩) (by omega) ?_
    (simp (disch := first | decide | omega | (simp only [nx]; first | done | omega)) only [go_sem, hk2, hkg, h1]; (repeat with_reducible refine aI ?_))
    refine ⟨⟨.row S.next, by simp [St.set], .inr ⟨S.next, rfl, by omega, ?_⟩⟩, ⟨by simp [St.set, St.grow, St.leave, St.add, St.drop], fun j o hj e => ?_⟩⟩
    · simp [St.grow, St.leave, St.add, St.set, St.drop, Ne.symm (show k ≠ S.next by omega)]
    · have hlt := hS.lt e
      have hjg : j ≠ g := fun e2 => by
        rcases hj with h | ⟨_, t, cs, rfl⟩
        · omega
        · rw [e2, h2] at e; cases e
      have hj : j ≠ k := by rcases hj with h | h; omega; exact h.1
      simp [St.grow, St.leave, St.add, St.set, St.drop, hj, hjg, show j ≠ S.next by omega, e]
theorem WAt.box {k : Nat} {bs : List UInt8} {S T : St} (h : WAt k bs S) (hn : S.next ≤ T.next) (hS : S.WF) (hb : ∀ j o, S.ob j = some o → T.ob j = some o) : WAt k bs T := by
  obtain ⟨own, h1, h2⟩ := h
  refine ⟨own, hb _ _ h1, h2.imp id fun ⟨g, h3, h4, h5⟩ => ⟨g, h3, h4, hb _ _ h5⟩⟩
theorem add_keep {S : St} (hS : S.WF) (o : Ob) : ∀ j o', S.ob j = some o' → (S.add o).ob j = some o' := by
  intro j o' h
  have hlt := hS.lt h
  simp [St.add, show j ≠ S.next by omega, h]
theorem WAt.add {k : Nat} {bs : List UInt8} {S : St} (h : WAt k bs S) (hS : S.WF) (o : Ob) : WAt k bs (S.add o) := h.box (Nat.le_succ _) hS (add_keep hS o)
theorem WFr.add {k : Nat} {S T : St} (h : WFr k S T) (hT : T.WF) (o : Ob) : WFr k S (T.add o) := h.trans (WFr.of_keep (Nat.le_succ _) (add_keep hT o))
set_option maxRecDepth 200000 in
set_option maxHeartbeats 4000000 in
theorem byte_w {S : St} {k : Nat} {bs : List UInt8} (b : UInt8) (hk : k < S.next) (h : WAt k bs S) (hl : bs.length + 1 ≤ 1099511627776) : DCalls Tryz.prog 88 [.loc k 0, bD b] S fun d T => d = undefD ∧ WAt k (bs ++ [b]) T ∧ WFr k S T := by
  refine dcalls_inline mixed Tryz.func88 rfl (fun _ _ => by kernel_rfl) (rs := []) rfl (by kernel_rfl) (fun hS => ?_)
  (simp (disch := first | decide | omega | (simp only [nx]; first | done | omega)) only [go_sem, show bD b = .v (.int .u8 b.toNat) from rfl]; (repeat with_reducible refine aI ?_))
  refine (raw_w .full [b] hk h hl).mono ?_
  rintro _ T ⟨rfl, h1, h2⟩
  (simp (disch := first | decide | omega | (simp only [nx]; first | done | omega)) only [go_sem]; (repeat with_reducible refine aI ?_))
  exact h2
theorem bD1 (n : Nat) (h : n < 256) : [D.v (.int .u8 (n : Int))] = [b8 n].map bD := by
  simp [bD, b8_toNat n h]
theorem wrap_u8 (n : Nat) : IntKind.u8.wrap (n : Int) = (n : Int) % 256 := IntKind.wrap_u8 _
set_option maxRecDepth 200000 in
set_option maxHeartbeats 4000000 in
theorem number_w {S : St} {k : Nat} {bs : List UInt8} (n : Nat) (hn : IsU64 n) (hk : k < S.next) (h : WAt k bs S) (hl : bs.length + 10 ≤ 1099511627776) : DCalls Tryz.prog 90 [.loc k 0, .v (.int .u64 (n : Int))] S fun d T => d = undefD ∧ WAt k (bs ++ numB n) T ∧ WFr k S T := by
  refine dcalls_inline mixed Tryz.func90 rfl (fun _ _ => by kernel_rfl) (rs := []) rfl (by kernel_rfl) (fun hS => ?_)
  (simp (disch := first | decide | omega | (simp only [nx]; first | done | omega)) only [go_sem]; (repeat with_reducible refine aI ?_))
  have hnl := numB_length_le n hn
  refine dloop_down (fun t => List.contains [1, 4, 5, 6, 7, 8, 9, 10, 11, 12, 13] t) (by kernel_rfl) hS (fun m g T => ∃ done, done ++ numB m = numB n ∧ IsU64 m ∧ g 1 = .v (.int .u64 (m : Int)) ∧ WAt k (bs ++ done) T ∧ WFr k S T) n ⟨[], rfl, hn, rfl, by rw [List.append_nil]; exact h, WFr.refl k S⟩ ?_
  rintro m g T hT hg ⟨done, hd, hm, q1, hW, hF⟩
  have q0 : g 0 = .loc k 0 := hg 0 rfl
  have hkT : k < T.next := Nat.lt_of_lt_of_le hk hF.next
  have hdl : (bs ++ done).length + 1 ≤ 1099511627776 := by
    have := congrArg List.length hd
    rw [List.length_append] at this
    have := numB_pos m
    rw [List.length_append]; omega
  by_cases hlt : m < 128
  · have b1 : decide ((128 : Int) ≤ (m : Int)) = false := by simp; omega
    have w8 : IntKind.u8.wrap (m : Int) = (m : Int) := by rw [wrap_u8]; omega
    (simp (disch := first | decide | omega | (simp only [nx]; first | done | omega)) only [go_sem, q0, q1, b1, w8]; (repeat with_reducible refine aI ?_))
    rw [bD1 m (by omega)]
    refine (raw_w .full [b8 m] hkT hW hdl).mono ?_
    rintro _ T1 ⟨rfl, h1, h2⟩
    (simp (disch := first | decide | omega | (simp only [nx]; first | done | omega)) only [go_sem]; (repeat with_reducible refine aI ?_))
    refine ⟨?_, hF.trans h2⟩
    rw [← hd, numB_lt m hlt, ← List.append_assoc]; exact h1
  · have b1 : decide ((128 : Int) ≤ (m : Int)) = true := by simp; omega
    (simp (disch := first | decide | omega | (simp only [nx]; first | done | omega)) only [go_sem, q0, q1, b1, wrap_u8, or80]; (repeat with_reducible refine aI ?_))
    rw [bD1 (m % 128 + 128) (by omega)]
    refine (raw_w .full [b8 (m % 128 + 128)] hkT hW hdl).mono ?_
    rintro _ T1 ⟨rfl, h1, h2⟩
    (simp (disch := first | decide | omega | (simp only [nx]; first | done | omega)) only [go_sem, q0, q1]; (repeat with_reducible refine aI ?_))
    refine ⟨m / 128, T1.ob, by omega, fun _ _ h => h, done ++ [b8 (m % 128 + 128)], ?_, by unfold IsU64 at *; omega, ?_, by rw [← List.append_assoc]; exact h1, hF.trans h2⟩
    · rw [List.append_assoc, ← hd, numB_ge m hlt]; rfl
    · (first | (simp (disch := first | decide | omega | (simp only [nx]; first | done | omega)) only [go_sem]; first | done | rfl) | rfl)
set_option maxRecDepth 200000 in
set_option maxHeartbeats 4000000 in
theorem bytes_w {S : St} {k : Nat} {bs : List UInt8} (own2 : Own) (xs : List UInt8) (hk : k < S.next) (h : WAt k bs S) (hl : bs.length + xs.length + 10 ≤ 1099511627776) : DCalls Tryz.prog 156 [.loc k 0, .sl own2 (xs.map bD)] S fun d T => d = undefD ∧ WAt k (bs ++ (numB xs.length ++ xs)) T ∧ WFr k S T := by
  refine dcalls_inline mixed Tryz.func156 rfl (fun _ _ => by kernel_rfl) (rs := []) rfl (by kernel_rfl) (fun hS => ?_)
  have hu : IsU64 xs.length := by unfold IsU64; omega
  (simp (disch := first | decide | omega | (simp only [nx]; first | done | omega)) only [go_sem, wrap_u64 xs.length hu]; (repeat with_reducible refine aI ?_))
  refine (number_w xs.length hu hk h (by omega)).mono ?_
  rintro _ T ⟨rfl, h1, h2⟩
  (simp (disch := first | decide | omega | (simp only [nx]; first | done | omega)) only [go_sem]; (repeat with_reducible refine aI ?_))
  have := numB_length_le xs.length hu
  refine (raw_w own2 xs (Nat.lt_of_lt_of_le hk h2.next) h1 (by rw [List.length_append]; omega)).mono ?_
  rintro _ T1 ⟨rfl, h3, h4⟩
  (simp (disch := first | decide | omega | (simp only [nx]; first | done | omega)) only [go_sem]; (repeat with_reducible refine aI ?_))
  refine ⟨by rw [← List.append_assoc]; exact h3, h2.trans h4⟩
set_option maxRecDepth 200000 in
set_option maxHeartbeats 4000000 in
theorem text_w {S : St} {k : Nat} {bs : List UInt8} (s : ByteArray) (hk : k < S.next) (h : WAt k bs S) (hl : bs.length + s.data.toList.length + 10 ≤ 1099511627776) : DCalls Tryz.prog 133 [.loc k 0, .v (.string s)] S fun d T => d = undefD ∧ WAt k (bs ++ (numB s.data.toList.length ++ s.data.toList)) T ∧ WFr k S T := by
  refine dcalls_inline mixed Tryz.func133 rfl (fun _ _ => by kernel_rfl) (rs := []) rfl (by kernel_rfl) (fun hS => ?_)
  (simp (disch := first | decide | omega | (simp only [nx]; first | done | omega)) only [go_sem]; (repeat with_reducible refine aI ?_))
  refine (bytes_w .no s.data.toList hk h hl).mono ?_
  rintro _ T ⟨rfl, h1, h2⟩
  (simp (disch := first | decide | omega | (simp only [nx]; first | done | omega)) only [go_sem]; (repeat with_reducible refine aI ?_))
  exact h2
set_option maxRecDepth 200000 in
set_option maxHeartbeats 4000000 in
theorem bool_w {S : St} {k : Nat} {bs : List UInt8} (b : Bool) (hk : k < S.next) (h : WAt k bs S) (hl : bs.length + 1 ≤ 1099511627776) : DCalls Tryz.prog 131 [.loc k 0, .v (.bool b)] S fun d T => d = undefD ∧ WAt k (bs ++ [if b then 1 else 0]) T ∧ WFr k S T := by
  refine dcalls_inline mixed Tryz.func131 rfl (fun _ _ => by kernel_rfl) (rs := []) rfl (by kernel_rfl) (fun hS => ?_)
  cases b
  · (simp (disch := first | decide | omega | (simp only [nx]; first | done | omega)) only [go_sem]; (repeat with_reducible refine aI ?_))
    refine (raw_w .full [0] hk h (by simpa using hl)).mono ?_
    rintro _ T ⟨rfl, h1, h2⟩
    (simp (disch := first | decide | omega | (simp only [nx]; first | done | omega)) only [go_sem]; (repeat with_reducible refine aI ?_))
    exact ⟨h1, h2⟩
  · (simp (disch := first | decide | omega | (simp only [nx]; first | done | omega)) only [go_sem]; (repeat with_reducible refine aI ?_))
    refine (raw_w .full [1] hk h (by simpa using hl)).mono ?_
    rintro _ T ⟨rfl, h1, h2⟩
    (simp (disch := first | decide | omega | (simp only [nx]; first | done | omega)) only [go_sem]; (repeat with_reducible refine aI ?_))
    exact h2
set_option maxRecDepth 200000 in
set_option maxHeartbeats 4000000 in
theorem int_w {S : St} {k : Nat} {bs : List UInt8} (n : Int) (hn : IsI64 n) (hk : k < S.next) (h : WAt k bs S) (hl : bs.length + 10 ≤ 1099511627776) : DCalls Tryz.prog 132 [.loc k 0, .v (.int .i64 n)] S fun d T => d = undefD ∧ WAt k (bs ++ numB (zig n)) T ∧ WFr k S T := by
  refine dcalls_inline mixed Tryz.func132 rfl (fun _ _ => by kernel_rfl) (rs := []) rfl (by kernel_rfl) (fun hS => ?_)
  (simp (disch := first | decide | omega | (simp only [nx]; first | done | omega)) only [go_sem, xor_zig n hn]; (repeat with_reducible refine aI ?_))
  refine (number_w (zig n) (zig_u64 n hn) hk h hl).mono ?_
  rintro _ T ⟨rfl, h1, h2⟩
  (simp (disch := first | decide | omega | (simp only [nx]; first | done | omega)) only [go_sem]; (repeat with_reducible refine aI ?_))
  exact h2
set_option maxRecDepth 200000 in
set_option maxHeartbeats 4000000 in
theorem out_w {S : St} {k : Nat} {bs : List UInt8} (h : WAt k bs S) (hl : bs.length ≤ 1099511627776) : DCalls Tryz.prog 55 [.loc k 0] S fun d T => ∃ o, d = .sl o (bs.map bD) ∧ WAt k bs T ∧ WFr k S T := by
  obtain ⟨own, h1, h2⟩ := h
  refine dcalls_inline mixed Tryz.func55 rfl (fun _ _ => by kernel_rfl) (rs := [.tmp 2]) rfl (by kernel_rfl) (fun hS => ?_)
  (simp (disch := first | decide | omega | (simp only [nx]; first | done | omega)) only [go_sem, h1]; (repeat with_reducible refine aI ?_))
  refine dapp_bytes (bs := []) (.inl ⟨rfl, rfl⟩) (by simpa using hl) ?_
  (simp (disch := first | decide | omega | (simp only [nx]; first | done | omega)) only [go_sem]; (repeat with_reducible refine aI ?_))
  have hob : ∀ j o, S.ob j = some o → (S.grow .full 5 bs.length).ob j = some o := fun j o e => by
    have hlt := hS.lt e
    simp [St.grow, St.leave, St.add, show j ≠ S.next by omega, e]
  exact ⟨_, rfl, ⟨own, hob _ _ h1, h2.imp id fun ⟨g, h3, h4, h5⟩ => ⟨g, h3, h4, hob _ _ h5⟩⟩, WFr.of_keep (by simp [St.grow, St.leave, St.add]) hob⟩
end Go.Proofs.YtjjhjhjphhpeiaaGreatDoor
