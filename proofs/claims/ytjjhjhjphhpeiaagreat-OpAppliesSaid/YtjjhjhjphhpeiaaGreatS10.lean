/- OpApplies answers true for any schema, any value and any operations, and leaves its arguments as they were. Conditions: none but the statement's own. -/
import Derived.Test.YtjjhjhjphhpeiaaGreatS9
import Derived.Test.YtjjhjhjphhpeiaaGreatRows
set_option linter.unusedVariables false
set_option linter.unusedSimpArgs false
namespace Go.Proofs.YtjjhjhjphhpeiaaGreat
open Go.RowKit
set_option linter.unusedSimpArgs false
set_option linter.unusedVariables false
theorem withParts_same (v : DVal) : v.withParts v.parts = v := by cases v; rfl
theorem chV_none (f : DVal → DVal) : ∀ (ps : List DStp) {v : DVal}, getV ps v = none → chV f ps v = v
  | [], v, h => by cases h
  | p :: ps, v, h => by
    rw [getV_cons] at h
    rw [chV]
    split
    · rename_i hin
      rw [if_pos hin] at h
      have hpl : plN v p < v.parts.length := by have := hin.1; have := hin.2; unfold plN; omega
      rw [chV_none f ps h, getD_at hpl, List.set_getElem_self, withParts_same]
    · rfl
theorem dapp_more {P : Program} {S : St} {t ty e : TypeId} {own own2 : Own} {es es2 : List D} {K : D → St → Prop} (he : elT P t = some e) (hz : zeroT P e = true) (h : own = .full ∨ ∃ g, own = .row g ∧ S.ob g = some (.row e es.length)) (hw : ∀ d ∈ es, d.width = szOf P e) (hx : ∀ d ∈ es2, d.width = szOf P e)
    (hb : es.length + es2.length ≤ 140737488355328) (hb2 : (es.length + es2.length) * bytesOf P e ≤ 140737488355328) (k : K (.sl (.row S.next) (es ++ es2)) (S.grow own e (es.length + es2.length))) : dapp P S t t ty (.sl own es) (.sl own2 es2) K := by
  refine dapp_row ?_
  simp only [dappend, he, hz, true_and, Option.isSome_some]
  refine ⟨hw, hx, ?_, hb, hb2, k⟩
  rcases h with rfl | ⟨g, rfl, h⟩
  · trivial
  · exact h
/-- Where a name stands first. -/
theorem ixN_step {α : Type} [DecidableEq α] {l : List α} {x : α} {i : Nat} (hi : i ≤ ixN l x) (hl : i < l.length) (hn : l[i] ≠ x) : i + 1 ≤ ixN l x := by
  rcases Nat.lt_or_ge i (ixN l x) with h1 | h1
  · exact h1
  · exfalso
    have e : i = l.idxOf x := by unfold ixN at hi h1; omega
    subst e
    exact hn (List.getElem_idxOf hl)
set_option maxRecDepth 200000 in
set_option maxHeartbeats 8000000 in
theorem refPut_d (x : DVal) : ∀ (ps : List DStp) (own : Own) (v : DVal), okV v → v.weight ≤ 1000000 → ps.length ≤ 1000000 →
    DPure Tryz.prog 20 [encV v, encV x, .sl own (ps.map encP)] (.tup [encV (chV (fun _ => x) ps v), .v (.bool (getV ps v).isSome)]) := by
  intro ps
  induction ps with
  | nil =>
    intro own v hok hw hl
    refine dpure_of_dwp mixed Tryz.func20 rfl (fun _ _ => by kernel_rfl) (rs := [.cell 6 29, .tmp 7]) rfl (by kernel_rfl) (closed_res _ _) (fun S hS => ?_)
    (simp (disch := first | decide | omega | (simp only [nx]; first | done | omega)) only [go_sem, Nat.reduceMul]; (repeat (with_reducible refine And.intro (by first | omega | assumption | rfl) ?_)))
    refine ⟨?_, (by (repeat' first | assumption | exact St.Sub.refl _ | exact RowOk.sub (by assumption) (by assumption) | refine St.Sub.trans ?_ (RowOk.sub (by assumption) (by assumption)) | refine St.Sub.add ?_ ?_ _ | refine St.Sub.set ?_ ?_ ?_ _ | refine St.Sub.keep ?_ ?_ | refine St.WF.leave ?_ _ | refine St.WF.add ?_ _ | refine St.WF.set ?_ ?_ _ | refine St.WF.grow ?_ _ _ _ | refine St.WF.keep ?_ ?_ | (first | omega | (simp only [RowOk.lo, nx]; first | done | omega))))⟩
    simp only [D.frz, frzL, frz_encV]
    rfl
  | cons p ps ih =>
    intro own v hok hw hl
    have hl' : ps.length ≤ 1000000 := by simp only [List.length_cons] at hl; omega
    refine dpure_of_dwp mixed Tryz.func20 rfl (fun _ _ => by kernel_rfl) (rs := [.cell 6 29, .tmp 7]) rfl (by kernel_rfl) (closed_res _ _) (fun S hS => ?_)
    have b0 : (((ps.length + 1 : Nat) : Int) == 0) = false := by simp; omega
    (simp (disch := first | decide | omega | (simp only [nx]; first | done | omega)) only [go_sem, Nat.reduceMul, b0]; (repeat (with_reducible refine And.intro (by first | omega | assumption | rfl) ?_)))
    by_cases hin : inP v p
    · have hpl : plN v p < v.parts.length := by have := hin.1; have := hin.2; unfold plN; omega
      have hgd : v.parts.getD (plN v p) default = v.parts[plN v p] := getD_at hpl
      have hget : getV (p :: ps) v = getV ps v.parts[plN v p] := by rw [getV_cons, if_pos hin, hgd]
      have hch : chV (fun _ => x) (p :: ps) v = v.withParts (v.parts.set (plN v p) (chV (fun _ => x) ps v.parts[plN v p])) := by rw [chV, if_pos hin, hgd]
      obtain ⟨o1, o2, o3, o4, o5, o6, o7, o8, o9⟩ := (okV_eq v).1 hok
      have hxo : okV v.parts[plN v p] := o9 _ (List.getElem_mem hpl)
      have hxw : v.parts[plN v p].weight ≤ 1000000 := by have := DVal.weight_part (List.getElem_mem hpl); omega
      have hg1 : getD_ v [p] = .tup [encV v.parts[plN v p], .v (.bool true)] := by
        rw [getD_, show getV [p] v = stepG v p from rfl, stepG_eq, if_pos hin, hgd]; rfl
      (refine ddraw_any (fun S' => S'.ob S.next = some (.box 29 (encV v).cells)) 10 (by (first | (simp (disch := first | decide | omega | (simp only [nx]; first | done | omega)) only [go_sem, Nat.reduceMul, hg1]; first | done | rfl) | rfl)) (by kernel_rfl) ?_; refine s_take 0 rfl (by kernel_rfl) (by kernel_rfl) (v := ?v1) (fun S' hz => dquietR_of ?h1) <| s_take 1 rfl (by kernel_rfl) (by kernel_rfl) (v := ?v2) (fun S' hz => dquietR_of ?h2) <| s_take 2 rfl (by kernel_rfl) (by kernel_rfl) (v := ?v3) (fun S' hz => dquietR_of ?h3) <| ?k3; (case h1 | h2 | h3 => ((simp (disch := first | decide | omega | (simp only [nx]; first | done | omega)) only [go_sem, Nat.reduceMul, hg1, hz]; (repeat (with_reducible refine And.intro (by first | omega | assumption | rfl) ?_))); first | done | exact rfl | omega)); refine s_take 3 rfl (by kernel_rfl) (by kernel_rfl) (v := ?v4) (fun S' hz => dquietR_of ?h4) ?k4; (case h4 => ((simp (disch := first | decide | omega | (simp only [nx]; first | done | omega)) only [go_sem, Nat.reduceMul, hg1, hz]; (repeat (with_reducible refine And.intro (by first | omega | assumption | rfl) ?_))); refine dqgo_mk (refGet_d v [p] _ hok hw (by simp)) ?_; exact rfl)); refine s_take 4 rfl (by kernel_rfl) (by kernel_rfl) (v := ?v5) (fun S' hz => dquietR_of ?h5) <| s_take 5 rfl (by kernel_rfl) (by kernel_rfl) (v := ?v6) (fun S' hz => dquietR_of ?h6) <| s_take 6 rfl (by kernel_rfl) (by kernel_rfl) (v := ?v7) (fun S' hz => dquietR_of ?h7) <| ?k7; (case h5 | h6 | h7 => ((simp (disch := first | decide | omega | (simp only [nx]; first | done | omega)) only [go_sem, Nat.reduceMul, hg1, hz]; (repeat (with_reducible refine And.intro (by first | omega | assumption | rfl) ?_))); first | done | exact rfl | omega)); refine s_split [7] (by kernel_rfl) (by simp) ?_; intro j_ hj_; obtain rfl : j_ = 7 := (by simpa using hj_); clear hj_; refine s_op rfl ?_; (simp (disch := first | decide | omega | (simp only [nx]; first | done | omega)) only [go_sem, Nat.reduceMul, hg1]; (repeat (with_reducible refine And.intro (by first | omega | assumption | rfl) ?_))); refine s_split [8] (by kernel_rfl) (by simp) ?_; intro j_ hj_; obtain rfl : j_ = 8 := (by simpa using hj_); clear hj_; refine s_op rfl ?_; (simp (disch := first | decide | omega | (simp only [nx]; first | done | omega)) only [go_sem, Nat.reduceMul, hg1]; (repeat (with_reducible refine And.intro (by first | omega | assumption | rfl) ?_))); refine s_take 9 rfl (by kernel_rfl) (by kernel_rfl) (v := ?v8) (fun S' hz => dquietR_of ?h8) ?k8; (case h8 => ((simp (disch := first | decide | omega | (simp only [nx]; first | done | omega)) only [go_sem, Nat.reduceMul, hg1, hz]; (repeat (with_reducible refine And.intro (by first | omega | assumption | rfl) ?_))); first | done | exact rfl | omega)); refine s_done (by kernel_rfl) ?_; (simp (disch := first | decide | omega | (simp only [nx]; first | done | omega)) only [go_sem, Nat.reduceMul, hg1]; (repeat (with_reducible refine And.intro (by first | omega | assumption | rfl) ?_))))
      have ih0 := fun o => ih o v.parts[plN v p] hxo hxw hl'
      generalize hz0 : v.parts[plN v p] = z at *
      cases hgp : getV ps z with
      | none =>
        rw [hgp] at ih0
        generalize hz1 : chV (fun _ => x) ps z = y at *
        (refine ddraw_any (fun S' => S'.ob (S.next + 1 + 1 + 1) = some (.box 29 (encV z).cells) ∧ S'.ob (S.next + 1) = some (.box 29 (encV x).cells)) 11 (by (first | (simp (disch := first | decide | omega | (simp only [nx]; first | done | omega)) only [go_sem, Nat.reduceMul, Option.isSome_none]; first | done | rfl) | rfl)) (by kernel_rfl) ?_; refine s_take 0 rfl (by kernel_rfl) (by kernel_rfl) (v := ?v9) (fun S' hz => dquietR_of ?h9) <| s_take 1 rfl (by kernel_rfl) (by kernel_rfl) (v := ?v10) (fun S' hz => dquietR_of ?h10) <| s_take 2 rfl (by kernel_rfl) (by kernel_rfl) (v := ?v11) (fun S' hz => dquietR_of ?h11) <| s_take 3 rfl (by kernel_rfl) (by kernel_rfl) (v := ?v12) (fun S' hz => dquietR_of ?h12) <| ?k12; (case h9 | h10 | h11 | h12 => ((simp (disch := first | decide | omega | (simp only [nx]; first | done | omega)) only [go_sem, Nat.reduceMul, Option.isSome_none, hz]; (repeat (with_reducible refine And.intro (by first | omega | assumption | rfl) ?_))); first | done | exact rfl | omega)); refine s_take 4 rfl (by kernel_rfl) (by kernel_rfl) (v := ?v13) (fun S' hz => dquietR_of ?h13) ?k13; (case h13 => ((simp (disch := first | decide | omega | (simp only [nx]; first | done | omega)) only [go_sem, Nat.reduceMul, Option.isSome_none, hz]; (repeat (with_reducible refine And.intro (by first | omega | assumption | rfl) ?_))); refine dqgo_mk (ih0 _) ?_; exact rfl)); refine s_take 5 rfl (by kernel_rfl) (by kernel_rfl) (v := ?v14) (fun S' hz => dquietR_of ?h14) <| s_take 6 rfl (by kernel_rfl) (by kernel_rfl) (v := ?v15) (fun S' hz => dquietR_of ?h15) <| s_take 7 rfl (by kernel_rfl) (by kernel_rfl) (v := ?v16) (fun S' hz => dquietR_of ?h16) <| ?k16; (case h14 | h15 | h16 => ((simp (disch := first | decide | omega | (simp only [nx]; first | done | omega)) only [go_sem, Nat.reduceMul, Option.isSome_none, hz]; (repeat (with_reducible refine And.intro (by first | omega | assumption | rfl) ?_))); first | done | exact rfl | omega)); refine s_split [8] (by kernel_rfl) (by simp) ?_; intro j_ hj_; obtain rfl : j_ = 8 := (by simpa using hj_); clear hj_; refine s_op rfl ?_; (simp (disch := first | decide | omega | (simp only [nx]; first | done | omega)) only [go_sem, Nat.reduceMul, Option.isSome_none]; (repeat (with_reducible refine And.intro (by first | omega | assumption | rfl) ?_))); refine s_split [9] (by kernel_rfl) (by simp) ?_; intro j_ hj_; obtain rfl : j_ = 9 := (by simpa using hj_); clear hj_; refine s_op rfl ?_; (simp (disch := first | decide | omega | (simp only [nx]; first | done | omega)) only [go_sem, Nat.reduceMul, Option.isSome_none]; (repeat (with_reducible refine And.intro (by first | omega | assumption | rfl) ?_))); refine s_take 10 rfl (by kernel_rfl) (by kernel_rfl) (v := ?v17) (fun S' hz => dquietR_of ?h17) ?k17; (case h17 => ((simp (disch := first | decide | omega | (simp only [nx]; first | done | omega)) only [go_sem, Nat.reduceMul, Option.isSome_none, hz]; (repeat (with_reducible refine And.intro (by first | omega | assumption | rfl) ?_))); first | done | exact rfl | omega)); refine s_done (by kernel_rfl) ?_; (simp (disch := first | decide | omega | (simp only [nx]; first | done | omega)) only [go_sem, Nat.reduceMul, Option.isSome_none]; (repeat (with_reducible refine And.intro (by first | omega | assumption | rfl) ?_))))
        refine ⟨?_, (by (repeat' first | assumption | exact St.Sub.refl _ | exact RowOk.sub (by assumption) (by assumption) | refine St.Sub.trans ?_ (RowOk.sub (by assumption) (by assumption)) | refine St.Sub.add ?_ ?_ _ | refine St.Sub.set ?_ ?_ ?_ _ | refine St.Sub.keep ?_ ?_ | refine St.WF.leave ?_ _ | refine St.WF.add ?_ _ | refine St.WF.set ?_ ?_ _ | refine St.WF.grow ?_ _ _ _ | refine St.WF.keep ?_ ?_ | (first | omega | (simp only [RowOk.lo, nx]; first | done | omega))))⟩
        rw [hget, hgp, chV_none _ _ (by rw [hget, hgp])]
        simp only [D.frz, frzL, frz_encV]
        rfl
      | some u =>
        rw [hgp] at ih0
        generalize hz1 : chV (fun _ => x) ps z = y at *
        (refine ddraw_any (fun S' => S'.ob (S.next + 1 + 1 + 1) = some (.box 29 (encV z).cells) ∧ S'.ob (S.next + 1) = some (.box 29 (encV x).cells)) 11 (by (first | (simp (disch := first | decide | omega | (simp only [nx]; first | done | omega)) only [go_sem, Nat.reduceMul, Option.isSome_some]; first | done | rfl) | rfl)) (by kernel_rfl) ?_; refine s_take 0 rfl (by kernel_rfl) (by kernel_rfl) (v := ?v18) (fun S' hz => dquietR_of ?h18) <| s_take 1 rfl (by kernel_rfl) (by kernel_rfl) (v := ?v19) (fun S' hz => dquietR_of ?h19) <| s_take 2 rfl (by kernel_rfl) (by kernel_rfl) (v := ?v20) (fun S' hz => dquietR_of ?h20) <| s_take 3 rfl (by kernel_rfl) (by kernel_rfl) (v := ?v21) (fun S' hz => dquietR_of ?h21) <| ?k21; (case h18 | h19 | h20 | h21 => ((simp (disch := first | decide | omega | (simp only [nx]; first | done | omega)) only [go_sem, Nat.reduceMul, Option.isSome_some, hz]; (repeat (with_reducible refine And.intro (by first | omega | assumption | rfl) ?_))); first | done | exact rfl | omega)); refine s_take 4 rfl (by kernel_rfl) (by kernel_rfl) (v := ?v22) (fun S' hz => dquietR_of ?h22) ?k22; (case h22 => ((simp (disch := first | decide | omega | (simp only [nx]; first | done | omega)) only [go_sem, Nat.reduceMul, Option.isSome_some, hz]; (repeat (with_reducible refine And.intro (by first | omega | assumption | rfl) ?_))); refine dqgo_mk (ih0 _) ?_; exact rfl)); refine s_take 5 rfl (by kernel_rfl) (by kernel_rfl) (v := ?v23) (fun S' hz => dquietR_of ?h23) <| s_take 6 rfl (by kernel_rfl) (by kernel_rfl) (v := ?v24) (fun S' hz => dquietR_of ?h24) <| s_take 7 rfl (by kernel_rfl) (by kernel_rfl) (v := ?v25) (fun S' hz => dquietR_of ?h25) <| ?k25; (case h23 | h24 | h25 => ((simp (disch := first | decide | omega | (simp only [nx]; first | done | omega)) only [go_sem, Nat.reduceMul, Option.isSome_some, hz]; (repeat (with_reducible refine And.intro (by first | omega | assumption | rfl) ?_))); first | done | exact rfl | omega)); refine s_split [8] (by kernel_rfl) (by simp) ?_; intro j_ hj_; obtain rfl : j_ = 8 := (by simpa using hj_); clear hj_; refine s_op rfl ?_; (simp (disch := first | decide | omega | (simp only [nx]; first | done | omega)) only [go_sem, Nat.reduceMul, Option.isSome_some]; (repeat (with_reducible refine And.intro (by first | omega | assumption | rfl) ?_))); refine s_split [9] (by kernel_rfl) (by simp) ?_; intro j_ hj_; obtain rfl : j_ = 9 := (by simpa using hj_); clear hj_; refine s_op rfl ?_; (simp (disch := first | decide | omega | (simp only [nx]; first | done | omega)) only [go_sem, Nat.reduceMul, Option.isSome_some]; (repeat (with_reducible refine And.intro (by first | omega | assumption | rfl) ?_))); refine s_take 10 rfl (by kernel_rfl) (by kernel_rfl) (v := ?v26) (fun S' hz => dquietR_of ?h26) ?k26; (case h26 => ((simp (disch := first | decide | omega | (simp only [nx]; first | done | omega)) only [go_sem, Nat.reduceMul, Option.isSome_some, hz]; (repeat (with_reducible refine And.intro (by first | omega | assumption | rfl) ?_))); first | done | exact rfl | omega)); refine s_done (by kernel_rfl) ?_; (simp (disch := first | decide | omega | (simp only [nx]; first | done | omega)) only [go_sem, Nat.reduceMul, Option.isSome_some]; (repeat (with_reducible refine And.intro (by first | omega | assumption | rfl) ?_))))
        refine ddraw_mk 7 (by kernel_rfl) ?_
        (simp (disch := first | decide | omega | (simp only [nx]; first | done | omega)) only [go_sem, Nat.reduceMul]; (repeat (with_reducible refine And.intro (by first | omega | assumption | rfl) ?_)))
        refine dqgo_mk (refElem_d v p.2 hw) ?_
        (simp (disch := first | decide | omega | (simp only [nx]; first | done | omega)) only [go_sem, Nat.reduceMul]; (repeat (with_reducible refine And.intro (by first | omega | assumption | rfl) ?_)))
        by_cases h0 : p.1 = []
        · have b2 : (!(p.1 == [])) = false := by simp [h0]
          have he : elemI v p.2 = ((plN v p : Nat) : Int) := by rw [← stepG_id (v := v) h0]; unfold plN; have := hin.1; omega
          (simp (disch := first | decide | omega | (simp only [nx]; first | done | omega)) only [go_sem, Nat.reduceMul, b2, he]; (repeat (with_reducible refine And.intro (by first | omega | assumption | rfl) ?_)))
          
          generalize hTe : St.set (St.add _ _) _ _ = T
          have t0 : T.ob S.next = some (.box 29 (encV v).cells) := by rw [← hTe]; (first | (simp (disch := first | decide | omega | (simp only [nx]; first | done | omega)) only [go_sem, Nat.reduceMul]; first | done | rfl) | rfl)
          have t4 : T.ob (S.next + 1 + 1 + 1 + 1) = some (.box 29 (encV y).cells) := by rw [← hTe]; (first | (simp (disch := first | decide | omega | (simp only [nx]; first | done | omega)) only [go_sem, Nat.reduceMul]; first | done | rfl) | rfl)
          have t6 : T.ob (S.next + 1 + 1) = some (.box 29 [.v (.int .i64 0), .v (.int .i64 0), .v (.string ⟨#[]⟩), .sl .full [], .sl .full [], .sl .full []]) := by rw [← hTe]; (first | (simp (disch := first | decide | omega | (simp only [nx]; first | done | omega)) only [go_sem, Nat.reduceMul]; first | done | rfl) | rfl)
          have tB : T.ob (S.next + 1 + 1 + 1 + 1 + 1) = some (.box 29 (encV v).cells) := by rw [← hTe]; (first | (simp (disch := first | decide | omega | (simp only [nx]; first | done | omega)) only [go_sem, Nat.reduceMul]; first | done | rfl) | rfl)
          have hT : T.WF := by rw [← hTe]; exact (by (repeat' first | assumption | refine St.WF.leave ?_ _ | refine St.WF.add ?_ _ | refine St.WF.set ?_ ?_ _ | refine St.WF.grow ?_ _ _ _ | refine St.WF.keep ?_ ?_ | (first | omega | (simp only [RowOk.lo, nx]; first | done | omega))))
          have hTn : T.next = S.next + 1 + 1 + 1 + 1 + 1 + 1 := by rw [← hTe]; simp only [add_next, set_next]
          have hTs : S.Sub T := by rw [← hTe]; exact (by (repeat' first | assumption | exact St.Sub.refl _ | exact RowOk.sub (by assumption) (by assumption) | refine St.Sub.trans ?_ (RowOk.sub (by assumption) (by assumption)) | refine St.Sub.add ?_ ?_ _ | refine St.Sub.set ?_ ?_ ?_ _ | refine St.Sub.keep ?_ ?_ | refine St.WF.leave ?_ _ | refine St.WF.add ?_ _ | refine St.WF.set ?_ ?_ _ | refine St.WF.grow ?_ _ _ _ | refine St.WF.keep ?_ ?_ | (first | omega | (simp only [RowOk.lo, nx]; first | done | omega))))
          clear hTe
          have heV : elT Tryz.prog 27 = some 29 := by kernel_rfl
          have hzV : szOf Tryz.prog 29 = 6 := by kernel_rfl
          have hbV : bytesOf Tryz.prog 29 = 104 := by kernel_rfl
          have wV : ∀ l : List DVal, ∀ d ∈ l.map encV, d.width = szOf Tryz.prog 29 := fun l d hd => by rw [hzV]; exact wVs l d hd
          have hwt := v.weight_eq
          have hpn := partsLen v
          have w2 : IntKind.i64.wrap (((plN v p : Nat) : Int) + 1) = ((plN v p + 1 : Nat) : Int) := IntWalk.i64_in _ ⟨by omega, by omega⟩
          have l1 : (((plN v p : Nat) : Int) ≤ (v.parts.length : Int)) = True := eq_true (by omega)
          have l2 : (((plN v p + 1 : Nat) : Int) ≤ (v.parts.length : Int)) = True := eq_true (by omega)
          have l3 : (∀ d, d ∈ List.map encV v.parts → d.cells.length = 6) = True := eq_true fun d hd => by obtain ⟨q, _, rfl⟩ := List.mem_map.1 hd; exact cells_encV q
          have g1 : ∀ j a, j < T.next → (T.grow .full 29 a).ob j = T.ob j := fun j a h => grow_skip (by omega) (fun _ h => by cases h)
          have g2 : ∀ j a b, j < T.next → ((T.grow .full 29 a).grow (.row T.next) 29 b).ob j = T.ob j := fun j a b h => (grow_skip (by rw [grow_next]; omega) (fun g h => by injection h with h; omega)).trans (g1 j a h)
          have g3 : ∀ j a b c, j < T.next → (((T.grow .full 29 a).grow (.row T.next) 29 b).grow (.row (T.next + 1)) 29 c).ob j = T.ob j := fun j a b c h => (grow_skip (by rw [grow_next, grow_next]; omega) (fun g h => by injection h with h; omega)).trans (g2 j a b h)
          have yB : ∀ a b c, (((T.grow .full 29 a).grow (.row T.next) 29 b).grow (.row (T.next + 1)) 29 c).ob (S.next + 1 + 1 + 1 + 1 + 1) = some (.box 29 (encV v).cells) := fun a b c => (g3 _ _ _ _ (by omega)).trans tB
          have y6 : ∀ a b c, (((T.grow .full 29 a).grow (.row T.next) 29 b).grow (.row (T.next + 1)) 29 c).ob (S.next + 1 + 1) = some (.box 29 [.v (.int .i64 0), .v (.int .i64 0), .v (.string ⟨#[]⟩), .sl .full [], .sl .full [], .sl .full []]) := fun a b c => (g3 _ _ _ _ (by omega)).trans t6
          have cv : (encV v).cells = [.v (.int .i64 v.kind), .v (.int .i64 v.n), strD v.s, .sl .no (v.names.map strD), .sl .no (v.ids.map u64D), .sl .no (v.parts.map encV)] := by rw [encV_eq]; rfl
          refine ddraw_any (fun S' => S'.ob S.next = some (.box 29 (encV v).cells) ∧ S'.ob (S.next + 1 + 1 + 1 + 1) = some (.box 29 (encV y).cells)) 16 (by (first | (simp (disch := first | decide | omega | (simp only [nx]; first | done | omega)) only [go_sem, Nat.reduceMul, t0, t4]; first | done | rfl) | rfl)) (by kernel_rfl) ?_
          (refine s_take 0 rfl (by kernel_rfl) (by kernel_rfl) (v := ?v35) (fun S' hz => dquietR_of ?h35) <| s_take 1 rfl (by kernel_rfl) (by kernel_rfl) (v := ?v36) (fun S' hz => dquietR_of ?h36) <| s_take 2 rfl (by kernel_rfl) (by kernel_rfl) (v := ?v37) (fun S' hz => dquietR_of ?h37) <| s_take 3 rfl (by kernel_rfl) (by kernel_rfl) (v := ?v38) (fun S' hz => dquietR_of ?h38) <| ?k38; (case h35 | h36 | h37 | h38 => ((simp (disch := first | decide | omega | (simp only [nx]; first | done | omega)) only [go_sem, Nat.reduceMul, he, w2, gdV5, hz]; (repeat (with_reducible refine And.intro (by first | omega | assumption | rfl) ?_))); first | done | exact rfl | omega)))
          (refine s_take 4 rfl (by kernel_rfl) (by kernel_rfl) (v := .sl .no ((v.parts.map encV).take (plN v p))) (fun S' hz => dquietR_of (by (simp (disch := first | decide | omega | (simp only [nx]; first | done | omega)) only [go_sem, Nat.reduceMul, he, w2, l1, true_or]; (repeat (with_reducible refine And.intro (by first | omega | assumption | rfl) ?_))); first | done | rfl | omega)) ?_)
          (refine s_take 6 rfl (by kernel_rfl) (by kernel_rfl) (v := ?v39) (fun S' hz => dquietR_of ?h39) <| s_take 7 rfl (by kernel_rfl) (by kernel_rfl) (v := ?v40) (fun S' hz => dquietR_of ?h40) <| s_take 9 rfl (by kernel_rfl) (by kernel_rfl) (v := ?v41) (fun S' hz => dquietR_of ?h41) <| s_take 10 rfl (by kernel_rfl) (by kernel_rfl) (v := ?v42) (fun S' hz => dquietR_of ?h42) <| s_take 11 rfl (by kernel_rfl) (by kernel_rfl) (v := ?v43) (fun S' hz => dquietR_of ?h43) <| s_take 12 rfl (by kernel_rfl) (by kernel_rfl) (v := ?v44) (fun S' hz => dquietR_of ?h44) <| ?k44; (case h39 | h40 | h41 | h42 | h43 | h44 => ((simp (disch := first | decide | omega | (simp only [nx]; first | done | omega)) only [go_sem, Nat.reduceMul, he, w2, gdV5, hz]; (repeat (with_reducible refine And.intro (by first | omega | assumption | rfl) ?_))); first | done | exact rfl | omega)))
          (refine s_take 13 rfl (by kernel_rfl) (by kernel_rfl) (v := .sl .no ((v.parts.map encV).drop (plN v p + 1))) (fun S' hz => dquietR_of (by (simp (disch := first | decide | omega | (simp only [nx]; first | done | omega)) only [go_sem, Nat.reduceMul, he, w2, l2, l3, or_true]; (repeat (with_reducible refine And.intro (by first | omega | assumption | rfl) ?_))); first | done | rfl | omega)) ?_)
          (refine s_split [5] (by kernel_rfl) (by simp) ?_; intro j_ hj_; obtain rfl : j_ = 5 := (by simpa using hj_); clear hj_; refine s_op rfl ?_; (simp (disch := first | decide | omega | (simp only [nx]; first | done | omega)) only [go_sem, Nat.reduceMul]; (repeat (with_reducible refine And.intro (by first | omega | assumption | rfl) ?_))))
          refine dapp_more heV (by kernel_rfl) (.inl rfl) (fun _ h => by cases h) (fun d hd => wV v.parts d (List.mem_of_mem_take hd)) (by simp only [List.length_take, List.length_map, List.length_nil]; omega) (by simp only [hbV, List.length_take, List.length_map, List.length_nil]; omega) ?_
          refine ⟨⟨(g1 _ _ (by omega)).trans t0, (g1 _ _ (by omega)).trans t4⟩, ?_⟩
          (refine s_split [8] (by kernel_rfl) (by simp) ?_; intro j_ hj_; obtain rfl : j_ = 8 := (by simpa using hj_); clear hj_; refine s_op rfl ?_; (simp (disch := first | decide | omega | (simp only [nx]; first | done | omega)) only [go_sem, Nat.reduceMul]; (repeat (with_reducible refine And.intro (by first | omega | assumption | rfl) ?_))))
          refine dapp_more heV (by kernel_rfl) (.inr ⟨_, rfl, ?_⟩) (fun d hd => wV v.parts d (List.mem_of_mem_take hd)) (fun d hd => by obtain rfl := List.mem_singleton.1 hd; rw [hzV]; exact cells_encV y) (by simp only [List.length_take, List.length_map, List.length_nil, List.length_cons]; omega) (by simp only [hbV, List.length_take, List.length_map, List.length_nil, List.length_cons]; omega) ?_
          · exact grow_hit
          refine ⟨⟨(g2 _ _ _ (by omega)).trans t0, (g2 _ _ _ (by omega)).trans t4⟩, ?_⟩
          (refine s_split [14] (by kernel_rfl) (by simp) ?_; intro j_ hj_; obtain rfl : j_ = 14 := (by simpa using hj_); clear hj_; refine s_op rfl ?_; (simp (disch := first | decide | omega | (simp only [nx]; first | done | omega)) only [go_sem, Nat.reduceMul]; (repeat (with_reducible refine And.intro (by first | omega | assumption | rfl) ?_))))
          refine dapp_more heV (by kernel_rfl) (.inr ⟨_, rfl, ?_⟩) (fun d hd => ?_) (fun d hd => wV v.parts d (List.mem_of_mem_drop hd)) (by simp only [List.length_take, List.length_drop, List.length_append, List.length_map, List.length_nil, List.length_cons]; omega) (by simp only [hbV, List.length_take, List.length_drop, List.length_append, List.length_map, List.length_nil, List.length_cons]; omega) ?_
          · have hh := grow_hit (S := T.grow .full 29 (List.take (plN v p) (List.map encV v.parts)).length) (own := .row T.next) (e := 29) (n := (List.take (plN v p) (List.map encV v.parts)).length + [encV y].length)
            rw [grow_next] at hh
            simp only [List.length_append]
            exact hh
          · rcases List.mem_append.1 hd with hd | hd
            · exact wV v.parts d (List.mem_of_mem_take hd)
            · obtain rfl := List.mem_singleton.1 hd; rw [hzV]; exact cells_encV y
          refine ⟨⟨(g3 _ _ _ _ (by omega)).trans t0, (g3 _ _ _ _ (by omega)).trans t4⟩, ?_⟩
          (refine s_take 15 rfl (by kernel_rfl) (by kernel_rfl) (v := ?v45) (fun S' hz => dquietR_of ?h45) ?k45; (case h45 => ((simp (disch := first | decide | omega | (simp only [nx]; first | done | omega)) only [go_sem, Nat.reduceMul, he, hz]; (repeat (with_reducible refine And.intro (by first | omega | assumption | rfl) ?_))); first | done | exact rfl | omega)))
          (refine s_done (by kernel_rfl) ?_; (simp (disch := first | decide | omega | (simp only [nx]; first | done | omega)) only [go_sem, Nat.reduceMul, he, yB, y6, cv]; (repeat (with_reducible refine And.intro (by first | omega | assumption | rfl) ?_))))
          have hcc : List.take (plN v p) (List.map encV v.parts) ++ [encV y] ++ List.drop (plN v p + 1) (List.map encV v.parts) = (v.parts.set (plN v p) y).map encV := by
            rw [List.map_set, List.set_eq_take_append_cons_drop, if_pos (by rw [List.length_map]; exact hpl)]; simp
          rw [hcc, hch, hget, hgp]
          refine ⟨?_, ?_⟩
          · simp only [D.frz, frzL, frz_strs, frz_u64s, frz_mapV, sv]
            rw [encV_eq (v.withParts _)]; rfl
          · have hTx := hTs.next
            refine ⟨by show S.next ≤ T.next + 1 + 1 + 1; omega, fun j ob e => ?_⟩
            have hj := hS.lt e
            simp only [St.set]
            rw [if_neg (by omega), if_neg (by omega), g3 _ _ _ _ (by omega)]
            exact hTs.ob _ _ e

        · have b2 : (!(p.1 == [])) = true := by simp [h0]
          have hm : p.1 ∈ v.names ∧ plN v p = ixN v.names p.1 := by
            have hp0 := hin.1
            unfold plN
            unfold placeOf at hp0 ⊢
            rw [if_neg h0] at hp0 ⊢
            split at hp0
            · rename_i h; rw [if_pos h]; exact ⟨h.2, by simp⟩
            · omega
          have hwe := v.weight_eq
          have hil := ix_lt hm.1
          (simp (disch := first | decide | omega | (simp only [nx]; first | done | omega)) only [go_sem, Nat.reduceMul, b2]; (repeat (with_reducible refine And.intro (by first | omega | assumption | rfl) ?_)))
          (refine dloop_st (fun t => List.contains [12, 50, 51, 52, 53, 54, 55, 56, 57, 58, 59, 60, 61] t) (by kernel_rfl) ?_ (v.names.length) (fun i f => i ≤ v.names.length ∧ f 12 = .v (.int .i64 (i : Nat)) ∧ (i ≤ ixN v.names p.1)) ?_ ?_; (exact (by (repeat' first | assumption | refine St.WF.leave ?_ _ | refine St.WF.add ?_ _ | refine St.WF.set ?_ ?_ _ | refine St.WF.grow ?_ _ _ _ | refine St.WF.keep ?_ ?_ | (first | omega | (simp only [RowOk.lo, nx]; first | done | omega))))); (exact ⟨(by omega), (by (first | (simp (disch := first | decide | omega | (simp only [nx]; first | done | omega)) only [go_sem, Nat.reduceMul]; first | done | rfl) | rfl)), (Nat.zero_le _)⟩); intro i g tn hn hT hg hI; obtain ⟨le, q12, hno⟩ := hI; have q2 := hg 2 rfl; have q3 := hg 3 rfl; have q6 := hg 6 rfl; have q7 := hg 7 rfl; have q10 := hg 10 rfl; simp (disch := first | decide | omega | (simp only [nx]; first | done | omega)) only [go_sem, Nat.reduceMul] at q2 q3 q6 q7 q10; clear hg; have hn' := hn; try simp only [add_next, set_next, grow_next, leave_next, drop_next] at hn')
          have hlt : i < v.names.length := by omega
          have w1 : IntKind.i64.wrap ((i : Int) + 1) = ((i + 1 : Nat) : Int) := IntWalk.i64_in _ ⟨by omega, by omega⟩
          by_cases hx : v.names[i] = p.1
          · have b3 : (!(v.names[i] == p.1)) = false := by simp [hx]
            have hi : i = plN v p := by
              rw [hm.2]
              rcases Nat.lt_or_ge i (ixN v.names p.1) with h1 | h1
              · have := ixN_step (Nat.le_of_lt h1) hlt
                exact absurd hx (by simpa using List.not_of_lt_findIdx h1)
              · omega
            (simp (disch := first | decide | omega | (simp only [nx]; first | done | omega)) only [go_sem, Nat.reduceMul, q2, q3, q12, b3]; (repeat (with_reducible refine And.intro (by first | omega | assumption | rfl) ?_)))
            refine ddraw_mk 10 (by kernel_rfl) ?_
            (simp (disch := first | decide | omega | (simp only [nx]; first | done | omega)) only [go_sem, Nat.reduceMul, q2, q3, q12, b3, hlt]; (repeat (with_reducible refine And.intro (by first | omega | assumption | rfl) ?_)))
            rw [hi] at q12
            
            generalize hTe : St.set (St.add _ _) _ _ = T
            have t0 : T.ob S.next = some (.box 29 (encV v).cells) := by rw [← hTe]; (first | (simp (disch := first | decide | omega | (simp only [nx]; first | done | omega)) only [go_sem, Nat.reduceMul]; first | done | rfl) | rfl)
            have t4 : T.ob (S.next + 1 + 1 + 1 + 1) = some (.box 29 (encV y).cells) := by rw [← hTe]; (first | (simp (disch := first | decide | omega | (simp only [nx]; first | done | omega)) only [go_sem, Nat.reduceMul]; first | done | rfl) | rfl)
            have t6 : T.ob (S.next + 1 + 1) = some (.box 29 [.v (.int .i64 0), .v (.int .i64 0), .v (.string ⟨#[]⟩), .sl .full [], .sl .full [], .sl .full []]) := by rw [← hTe]; (first | (simp (disch := first | decide | omega | (simp only [nx]; first | done | omega)) only [go_sem, Nat.reduceMul]; first | done | rfl) | rfl)
            have tB : T.ob (tn) = some (.box 29 (encV v).cells) := by rw [← hTe]; (first | (simp (disch := first | decide | omega | (simp only [nx]; first | done | omega)) only [go_sem, Nat.reduceMul]; first | done | rfl) | rfl)
            have hT : T.WF := by rw [← hTe]; exact (by (repeat' first | assumption | refine St.WF.leave ?_ _ | refine St.WF.add ?_ _ | refine St.WF.set ?_ ?_ _ | refine St.WF.grow ?_ _ _ _ | refine St.WF.keep ?_ ?_ | (first | omega | (simp only [RowOk.lo, nx]; first | done | omega))))
            have hTn : T.next = tn + 1 := by rw [← hTe]; simp only [add_next, set_next]
            have hTs : S.Sub T := by rw [← hTe]; exact (by (repeat' first | assumption | exact St.Sub.refl _ | exact RowOk.sub (by assumption) (by assumption) | refine St.Sub.trans ?_ (RowOk.sub (by assumption) (by assumption)) | refine St.Sub.add ?_ ?_ _ | refine St.Sub.set ?_ ?_ ?_ _ | refine St.Sub.keep ?_ ?_ | refine St.WF.leave ?_ _ | refine St.WF.add ?_ _ | refine St.WF.set ?_ ?_ _ | refine St.WF.grow ?_ _ _ _ | refine St.WF.keep ?_ ?_ | (first | omega | (simp only [RowOk.lo, nx]; first | done | omega))))
            clear hTe
            have heV : elT Tryz.prog 27 = some 29 := by kernel_rfl
            have hzV : szOf Tryz.prog 29 = 6 := by kernel_rfl
            have hbV : bytesOf Tryz.prog 29 = 104 := by kernel_rfl
            have wV : ∀ l : List DVal, ∀ d ∈ l.map encV, d.width = szOf Tryz.prog 29 := fun l d hd => by rw [hzV]; exact wVs l d hd
            have hwt := v.weight_eq
            have hpn := partsLen v
            have w2 : IntKind.i64.wrap (((plN v p : Nat) : Int) + 1) = ((plN v p + 1 : Nat) : Int) := IntWalk.i64_in _ ⟨by omega, by omega⟩
            have l1 : (((plN v p : Nat) : Int) ≤ (v.parts.length : Int)) = True := eq_true (by omega)
            have l2 : (((plN v p + 1 : Nat) : Int) ≤ (v.parts.length : Int)) = True := eq_true (by omega)
            have l3 : (∀ d, d ∈ List.map encV v.parts → d.cells.length = 6) = True := eq_true fun d hd => by obtain ⟨q, _, rfl⟩ := List.mem_map.1 hd; exact cells_encV q
            have g1 : ∀ j a, j < T.next → (T.grow .full 29 a).ob j = T.ob j := fun j a h => grow_skip (by omega) (fun _ h => by cases h)
            have g2 : ∀ j a b, j < T.next → ((T.grow .full 29 a).grow (.row T.next) 29 b).ob j = T.ob j := fun j a b h => (grow_skip (by rw [grow_next]; omega) (fun g h => by injection h with h; omega)).trans (g1 j a h)
            have g3 : ∀ j a b c, j < T.next → (((T.grow .full 29 a).grow (.row T.next) 29 b).grow (.row (T.next + 1)) 29 c).ob j = T.ob j := fun j a b c h => (grow_skip (by rw [grow_next, grow_next]; omega) (fun g h => by injection h with h; omega)).trans (g2 j a b h)
            have yB : ∀ a b c, (((T.grow .full 29 a).grow (.row T.next) 29 b).grow (.row (T.next + 1)) 29 c).ob (tn) = some (.box 29 (encV v).cells) := fun a b c => (g3 _ _ _ _ (by omega)).trans tB
            have y6 : ∀ a b c, (((T.grow .full 29 a).grow (.row T.next) 29 b).grow (.row (T.next + 1)) 29 c).ob (S.next + 1 + 1) = some (.box 29 [.v (.int .i64 0), .v (.int .i64 0), .v (.string ⟨#[]⟩), .sl .full [], .sl .full [], .sl .full []]) := fun a b c => (g3 _ _ _ _ (by omega)).trans t6
            have cv : (encV v).cells = [.v (.int .i64 v.kind), .v (.int .i64 v.n), strD v.s, .sl .no (v.names.map strD), .sl .no (v.ids.map u64D), .sl .no (v.parts.map encV)] := by rw [encV_eq]; rfl
            refine ddraw_any (fun S' => S'.ob S.next = some (.box 29 (encV v).cells) ∧ S'.ob (S.next + 1 + 1 + 1 + 1) = some (.box 29 (encV y).cells)) 16 (by (first | (simp (disch := first | decide | omega | (simp only [nx]; first | done | omega)) only [go_sem, Nat.reduceMul, t0, t4]; first | done | rfl) | rfl)) (by kernel_rfl) ?_
            (refine s_take 0 rfl (by kernel_rfl) (by kernel_rfl) (v := ?v46) (fun S' hz => dquietR_of ?h46) <| s_take 1 rfl (by kernel_rfl) (by kernel_rfl) (v := ?v47) (fun S' hz => dquietR_of ?h47) <| s_take 2 rfl (by kernel_rfl) (by kernel_rfl) (v := ?v48) (fun S' hz => dquietR_of ?h48) <| s_take 3 rfl (by kernel_rfl) (by kernel_rfl) (v := ?v49) (fun S' hz => dquietR_of ?h49) <| ?k49; (case h46 | h47 | h48 | h49 => ((simp (disch := first | decide | omega | (simp only [nx]; first | done | omega)) only [go_sem, Nat.reduceMul, q2, q3, q6, q7, q10, q12, w2, gdV5, hz]; (repeat (with_reducible refine And.intro (by first | omega | assumption | rfl) ?_))); first | done | exact rfl | omega)))
            (refine s_take 4 rfl (by kernel_rfl) (by kernel_rfl) (v := .sl .no ((v.parts.map encV).take (plN v p))) (fun S' hz => dquietR_of (by (simp (disch := first | decide | omega | (simp only [nx]; first | done | omega)) only [go_sem, Nat.reduceMul, q2, q3, q6, q7, q10, q12, w2, l1, true_or]; (repeat (with_reducible refine And.intro (by first | omega | assumption | rfl) ?_))); first | done | rfl | omega)) ?_)
            (refine s_take 6 rfl (by kernel_rfl) (by kernel_rfl) (v := ?v50) (fun S' hz => dquietR_of ?h50) <| s_take 7 rfl (by kernel_rfl) (by kernel_rfl) (v := ?v51) (fun S' hz => dquietR_of ?h51) <| s_take 9 rfl (by kernel_rfl) (by kernel_rfl) (v := ?v52) (fun S' hz => dquietR_of ?h52) <| s_take 10 rfl (by kernel_rfl) (by kernel_rfl) (v := ?v53) (fun S' hz => dquietR_of ?h53) <| s_take 11 rfl (by kernel_rfl) (by kernel_rfl) (v := ?v54) (fun S' hz => dquietR_of ?h54) <| s_take 12 rfl (by kernel_rfl) (by kernel_rfl) (v := ?v55) (fun S' hz => dquietR_of ?h55) <| ?k55; (case h50 | h51 | h52 | h53 | h54 | h55 => ((simp (disch := first | decide | omega | (simp only [nx]; first | done | omega)) only [go_sem, Nat.reduceMul, q2, q3, q6, q7, q10, q12, w2, gdV5, hz]; (repeat (with_reducible refine And.intro (by first | omega | assumption | rfl) ?_))); first | done | exact rfl | omega)))
            (refine s_take 13 rfl (by kernel_rfl) (by kernel_rfl) (v := .sl .no ((v.parts.map encV).drop (plN v p + 1))) (fun S' hz => dquietR_of (by (simp (disch := first | decide | omega | (simp only [nx]; first | done | omega)) only [go_sem, Nat.reduceMul, q2, q3, q6, q7, q10, q12, w2, l2, l3, or_true]; (repeat (with_reducible refine And.intro (by first | omega | assumption | rfl) ?_))); first | done | rfl | omega)) ?_)
            (refine s_split [5] (by kernel_rfl) (by simp) ?_; intro j_ hj_; obtain rfl : j_ = 5 := (by simpa using hj_); clear hj_; refine s_op rfl ?_; (simp (disch := first | decide | omega | (simp only [nx]; first | done | omega)) only [go_sem, Nat.reduceMul]; (repeat (with_reducible refine And.intro (by first | omega | assumption | rfl) ?_))))
            refine dapp_more heV (by kernel_rfl) (.inl rfl) (fun _ h => by cases h) (fun d hd => wV v.parts d (List.mem_of_mem_take hd)) (by simp only [List.length_take, List.length_map, List.length_nil]; omega) (by simp only [hbV, List.length_take, List.length_map, List.length_nil]; omega) ?_
            refine ⟨⟨(g1 _ _ (by omega)).trans t0, (g1 _ _ (by omega)).trans t4⟩, ?_⟩
            (refine s_split [8] (by kernel_rfl) (by simp) ?_; intro j_ hj_; obtain rfl : j_ = 8 := (by simpa using hj_); clear hj_; refine s_op rfl ?_; (simp (disch := first | decide | omega | (simp only [nx]; first | done | omega)) only [go_sem, Nat.reduceMul]; (repeat (with_reducible refine And.intro (by first | omega | assumption | rfl) ?_))))
            refine dapp_more heV (by kernel_rfl) (.inr ⟨_, rfl, ?_⟩) (fun d hd => wV v.parts d (List.mem_of_mem_take hd)) (fun d hd => by obtain rfl := List.mem_singleton.1 hd; rw [hzV]; exact cells_encV y) (by simp only [List.length_take, List.length_map, List.length_nil, List.length_cons]; omega) (by simp only [hbV, List.length_take, List.length_map, List.length_nil, List.length_cons]; omega) ?_
            · exact grow_hit
            refine ⟨⟨(g2 _ _ _ (by omega)).trans t0, (g2 _ _ _ (by omega)).trans t4⟩, ?_⟩
            (refine s_split [14] (by kernel_rfl) (by simp) ?_; intro j_ hj_; obtain rfl : j_ = 14 := (by simpa using hj_); clear hj_; refine s_op rfl ?_; (simp (disch := first | decide | omega | (simp only [nx]; first | done | omega)) only [go_sem, Nat.reduceMul]; (repeat (with_reducible refine And.intro (by first | omega | assumption | rfl) ?_))))
            refine dapp_more heV (by kernel_rfl) (.inr ⟨_, rfl, ?_⟩) (fun d hd => ?_) (fun d hd => wV v.parts d (List.mem_of_mem_drop hd)) (by simp only [List.length_take, List.length_drop, List.length_append, List.length_map, List.length_nil, List.length_cons]; omega) (by simp only [hbV, List.length_take, List.length_drop, List.length_append, List.length_map, List.length_nil, List.length_cons]; omega) ?_
            · have hh := grow_hit (S := T.grow .full 29 (List.take (plN v p) (List.map encV v.parts)).length) (own := .row T.next) (e := 29) (n := (List.take (plN v p) (List.map encV v.parts)).length + [encV y].length)
              rw [grow_next] at hh
              simp only [List.length_append]
              exact hh
            · rcases List.mem_append.1 hd with hd | hd
              · exact wV v.parts d (List.mem_of_mem_take hd)
              · obtain rfl := List.mem_singleton.1 hd; rw [hzV]; exact cells_encV y
            refine ⟨⟨(g3 _ _ _ _ (by omega)).trans t0, (g3 _ _ _ _ (by omega)).trans t4⟩, ?_⟩
            (refine s_take 15 rfl (by kernel_rfl) (by kernel_rfl) (v := ?v56) (fun S' hz => dquietR_of ?h56) ?k56; (case h56 => ((simp (disch := first | decide | omega | (simp only [nx]; first | done | omega)) only [go_sem, Nat.reduceMul, q2, q3, q6, q7, q10, q12, hz]; (repeat (with_reducible refine And.intro (by first | omega | assumption | rfl) ?_))); first | done | exact rfl | omega)))
            (refine s_done (by kernel_rfl) ?_; (simp (disch := first | decide | omega | (simp only [nx]; first | done | omega)) only [go_sem, Nat.reduceMul, q2, q3, q6, q7, q10, q12, yB, y6, cv]; (repeat (with_reducible refine And.intro (by first | omega | assumption | rfl) ?_))))
            have hcc : List.take (plN v p) (List.map encV v.parts) ++ [encV y] ++ List.drop (plN v p + 1) (List.map encV v.parts) = (v.parts.set (plN v p) y).map encV := by
              rw [List.map_set, List.set_eq_take_append_cons_drop, if_pos (by rw [List.length_map]; exact hpl)]; simp
            rw [hcc, hch, hget, hgp]
            refine ⟨?_, ?_⟩
            · simp only [D.frz, frzL, frz_strs, frz_u64s, frz_mapV, sv]
              rw [encV_eq (v.withParts _)]; rfl
            · have hTx := hTs.next
              refine ⟨by show S.next ≤ T.next + 1 + 1 + 1; omega, fun j ob e => ?_⟩
              have hj := hS.lt e
              simp only [St.set]
              rw [if_neg (by omega), if_neg (by omega), g3 _ _ _ _ (by omega)]
              exact hTs.ob _ _ e

          · have b3 : (!(v.names[i] == p.1)) = true := by simp [hx]
            (simp (disch := first | decide | omega | (simp only [nx]; first | done | omega)) only [go_sem, Nat.reduceMul, q2, q3, q12, b3, w1]; (repeat (with_reducible refine And.intro (by first | omega | assumption | rfl) ?_)))
            refine ddraw_mk 10 (by kernel_rfl) ?_
            (simp (disch := first | decide | omega | (simp only [nx]; first | done | omega)) only [go_sem, Nat.reduceMul, q2, q3, q12, b3, hlt, w1]; (repeat (with_reducible refine And.intro (by first | omega | assumption | rfl) ?_)))
            (refine ⟨by omega, (by (repeat' first | assumption | exact St.Sub.refl _ | exact RowOk.sub (by assumption) (by assumption) | refine St.Sub.trans ?_ (RowOk.sub (by assumption) (by assumption)) | refine St.Sub.add ?_ ?_ _ | refine St.Sub.set ?_ ?_ ?_ _ | refine St.Sub.keep ?_ ?_ | refine St.WF.leave ?_ _ | refine St.WF.add ?_ _ | refine St.WF.set ?_ ?_ _ | refine St.WF.grow ?_ _ _ _ | refine St.WF.keep ?_ ?_ | (first | omega | (simp only [RowOk.lo, nx]; first | done | omega)))), ?_⟩; refine ⟨by omega, ?_, ?_⟩; all_goals (try (first | (simp (disch := first | decide | omega | (simp only [nx]; first | done | omega)) only [go_sem, Nat.reduceMul, w1]; first | done | rfl) | rfl)))
            exact ixN_step hno hlt hx
    · have hg1 : getD_ v [p] = .tup [encV zeroV, .v (.bool false)] := by
        rw [getD_, show getV [p] v = stepG v p from rfl, stepG_eq, if_neg hin]; rfl
      (refine ddraw_any (fun S' => S'.ob S.next = some (.box 29 (encV v).cells)) 10 (by (first | (simp (disch := first | decide | omega | (simp only [nx]; first | done | omega)) only [go_sem, Nat.reduceMul, hg1]; first | done | rfl) | rfl)) (by kernel_rfl) ?_; refine s_take 0 rfl (by kernel_rfl) (by kernel_rfl) (v := ?v27) (fun S' hz => dquietR_of ?h27) <| s_take 1 rfl (by kernel_rfl) (by kernel_rfl) (v := ?v28) (fun S' hz => dquietR_of ?h28) <| s_take 2 rfl (by kernel_rfl) (by kernel_rfl) (v := ?v29) (fun S' hz => dquietR_of ?h29) <| ?k29; (case h27 | h28 | h29 => ((simp (disch := first | decide | omega | (simp only [nx]; first | done | omega)) only [go_sem, Nat.reduceMul, hg1, hz]; (repeat (with_reducible refine And.intro (by first | omega | assumption | rfl) ?_))); first | done | exact rfl | omega)); refine s_take 3 rfl (by kernel_rfl) (by kernel_rfl) (v := ?v30) (fun S' hz => dquietR_of ?h30) ?k30; (case h30 => ((simp (disch := first | decide | omega | (simp only [nx]; first | done | omega)) only [go_sem, Nat.reduceMul, hg1, hz]; (repeat (with_reducible refine And.intro (by first | omega | assumption | rfl) ?_))); refine dqgo_mk (refGet_d v [p] _ hok hw (by simp)) ?_; exact rfl)); refine s_take 4 rfl (by kernel_rfl) (by kernel_rfl) (v := ?v31) (fun S' hz => dquietR_of ?h31) <| s_take 5 rfl (by kernel_rfl) (by kernel_rfl) (v := ?v32) (fun S' hz => dquietR_of ?h32) <| s_take 6 rfl (by kernel_rfl) (by kernel_rfl) (v := ?v33) (fun S' hz => dquietR_of ?h33) <| ?k33; (case h31 | h32 | h33 => ((simp (disch := first | decide | omega | (simp only [nx]; first | done | omega)) only [go_sem, Nat.reduceMul, hg1, hz]; (repeat (with_reducible refine And.intro (by first | omega | assumption | rfl) ?_))); first | done | exact rfl | omega)); refine s_split [7] (by kernel_rfl) (by simp) ?_; intro j_ hj_; obtain rfl : j_ = 7 := (by simpa using hj_); clear hj_; refine s_op rfl ?_; (simp (disch := first | decide | omega | (simp only [nx]; first | done | omega)) only [go_sem, Nat.reduceMul, hg1]; (repeat (with_reducible refine And.intro (by first | omega | assumption | rfl) ?_))); refine s_split [8] (by kernel_rfl) (by simp) ?_; intro j_ hj_; obtain rfl : j_ = 8 := (by simpa using hj_); clear hj_; refine s_op rfl ?_; (simp (disch := first | decide | omega | (simp only [nx]; first | done | omega)) only [go_sem, Nat.reduceMul, hg1]; (repeat (with_reducible refine And.intro (by first | omega | assumption | rfl) ?_))); refine s_take 9 rfl (by kernel_rfl) (by kernel_rfl) (v := ?v34) (fun S' hz => dquietR_of ?h34) ?k34; (case h34 => ((simp (disch := first | decide | omega | (simp only [nx]; first | done | omega)) only [go_sem, Nat.reduceMul, hg1, hz]; (repeat (with_reducible refine And.intro (by first | omega | assumption | rfl) ?_))); first | done | exact rfl | omega)); refine s_done (by kernel_rfl) ?_; (simp (disch := first | decide | omega | (simp only [nx]; first | done | omega)) only [go_sem, Nat.reduceMul, hg1]; (repeat (with_reducible refine And.intro (by first | omega | assumption | rfl) ?_))))
      refine ⟨?_, (by (repeat' first | assumption | exact St.Sub.refl _ | exact RowOk.sub (by assumption) (by assumption) | refine St.Sub.trans ?_ (RowOk.sub (by assumption) (by assumption)) | refine St.Sub.add ?_ ?_ _ | refine St.Sub.set ?_ ?_ ?_ _ | refine St.Sub.keep ?_ ?_ | refine St.WF.leave ?_ _ | refine St.WF.add ?_ _ | refine St.WF.set ?_ ?_ _ | refine St.WF.grow ?_ _ _ _ | refine St.WF.keep ?_ ?_ | (first | omega | (simp only [RowOk.lo, nx]; first | done | omega))))⟩
      have hgn : getV (p :: ps) v = none := by rw [getV_cons, if_neg hin]
      rw [chV_none _ _ hgn, hgn]
      simp only [D.frz, frzL, frz_encV]
      rfl
end Go.Proofs.YtjjhjhjphhpeiaaGreat

namespace Go.Proofs.YtjjhjhjphhpeiaaGreat
open Go.RowKit
set_option linter.unusedSimpArgs false
set_option linter.unusedVariables false
theorem filter_one {β : Type} (f : β → Nat) (L : List β) {k x : Nat} (hk : k < L.length) (h : f L[k] = x) (hn : ∀ b ∈ L.take k ++ L.drop (k + 1), f b ≠ x) : L.filter (fun b => f b != x) = L.take k ++ L.drop (k + 1) := by
  have e : L = L.take k ++ L[k] :: L.drop (k + 1) := by rw [← List.drop_eq_getElem_cons hk, List.take_append_drop]
  have h1 : (L.take k).filter (fun b => f b != x) = L.take k := List.filter_eq_self.2 fun b hb => by simpa using hn b (List.mem_append_left _ hb)
  have h2 : (L.drop (k + 1)).filter (fun b => f b != x) = L.drop (k + 1) := List.filter_eq_self.2 fun b hb => by simpa using hn b (List.mem_append_right _ hb)
  have h3 : ¬ (fun b => f b != x) L[k] = true := by simp [h]
  conv => lhs; rw [e]
  rw [List.filter_append, List.filter_cons_of_neg (p := fun b => f b != x) h3, h1, h2]
theorem zip_fst_mem {l : List Nat} {p : List DVal} {b : Nat × DVal} (h : b ∈ l.zip p) : b.1 ∈ l := by
  obtain ⟨a, c⟩ := b
  exact (List.of_mem_zip h).1
theorem woI_all {v : DVal} {id : Nat} (h : id ∉ v.ids) : woI v id v.ids.length = v.ids := by
  rw [woI, List.take_length]
  exact List.filter_eq_self.2 fun b hb => by
    have : b ≠ id := fun e => h (e ▸ hb)
    simpa using this
theorem woP_all {v : DVal} {id : Nat} (h : id ∉ v.ids) (hl : v.parts.length = v.ids.length) : woP v id v.ids.length = v.parts := by
  have e : (v.ids.zip v.parts).take v.ids.length = v.ids.zip v.parts := List.take_of_length_le (by rw [List.length_zip]; omega)
  have e2 : (v.ids.zip v.parts).filter (fun a => a.1 != id) = v.ids.zip v.parts := List.filter_eq_self.2 fun b hb => by
    have : b.1 ≠ id := fun e => h (e ▸ zip_fst_mem hb)
    simpa using this
  rw [woP, e, e2]
  exact List.map_snd_zip (by omega)
theorem woI_one {v : DVal} {id : Nat} (h : id ∈ v.ids) (hn : v.ids.Nodup) : woI v id v.ids.length = v.ids.take (ixN v.ids id) ++ v.ids.drop (ixN v.ids id + 1) := by
  have hk := ix_lt h
  have hx : v.ids[ixN v.ids id] = id := List.getElem_idxOf (x := id) (xs := v.ids) hk
  have hnm := notMem_del hn hk
  rw [hx] at hnm
  rw [woI, List.take_length]
  exact filter_one (fun a => a) v.ids hk hx fun b hb e => hnm (by simpa [e] using hb)
theorem woP_one {v : DVal} {id : Nat} (h : id ∈ v.ids) (hn : v.ids.Nodup) (hl : v.parts.length = v.ids.length) : woP v id v.ids.length = v.parts.take (ixN v.ids id) ++ v.parts.drop (ixN v.ids id + 1) := by
  have hk := ix_lt h
  have hx : v.ids[ixN v.ids id] = id := List.getElem_idxOf (x := id) (xs := v.ids) hk
  have hnm := notMem_del hn hk
  rw [hx] at hnm
  have e : (v.ids.zip v.parts).take v.ids.length = v.ids.zip v.parts := List.take_of_length_le (by rw [List.length_zip]; omega)
  have hk2 : ixN v.ids id < (v.ids.zip v.parts).length := by rw [List.length_zip]; omega
  have h4 : (v.ids.zip v.parts)[ixN v.ids id].1 = id := by rw [List.getElem_zip]; exact hx
  have tz : ∀ k, (v.ids.zip v.parts).take k = (v.ids.take k).zip (v.parts.take k) := fun k => List.take_zipWith
  have dz : ∀ k, (v.ids.zip v.parts).drop k = (v.ids.drop k).zip (v.parts.drop k) := fun k => List.drop_zipWith
  rw [woP, e, filter_one (fun a : Nat × DVal => a.1) _ hk2 h4 fun b hb e => ?_]
  · rw [List.map_append, tz, dz, List.map_snd_zip (by rw [List.length_take, List.length_take]; omega), List.map_snd_zip (by rw [List.length_drop, List.length_drop]; omega)]
  · rcases List.mem_append.1 hb with hb | hb
    · rw [tz] at hb
      have hm := zip_fst_mem hb
      have e' : b.1 = id := e
      rw [e'] at hm
      exact hnm (List.mem_append_left _ hm)
    · rw [dz] at hb
      have hm := zip_fst_mem hb
      have e' : b.1 = id := e
      rw [e'] at hm
      exact hnm (List.mem_append_right _ hm)
theorem GV.shape {v : DVal} {t : DSch} (h : GV v t) (h6 : t.kind = 6) (is : List Nat) (ps : List DVal) : v.ofList is ps = listV is ps := by
  obtain ⟨b1, b2, b3, b4⟩ := here_parts h.here_
  have hg := h.list h6
  have hk := hg.kind
  unfold bad1 at b1
  unfold bad2 at b2
  have hn0 : v.n = 0 := by omega
  have hs0 : v.s = [] := List.eq_nil_of_length_eq_zero (by omega)
  unfold DVal.ofList listV
  rw [hk, hn0, hs0, hg.names]
theorem ofList_self (v : DVal) : v.ofList v.ids v.parts = v := by cases v; rfl
/-- The document's Apply. -/
noncomputable def apR (s : DSch) (v : DVal) (o : DOp) : DVal := if chkO o s = 0 ∧ fitsTop v s = true then apV o v else v
set_option maxRecDepth 200000 in
set_option maxHeartbeats 16000000 in
theorem refApply_d (o : DOp) (s : DSch) (v : DVal) (h : OkO o) (hs : okS s) (hsw : s.weight ≤ 1000) (hok : okV v) (hw : v.weight ≤ 1000000) : DPure Tryz.prog 8 [encS s, encV v, encO o] (encV (apR s v o)) := by
  have hpl := h.path
  have hwt := h.wt
  have hvd := DVal.depth_weight v.depth v (Nat.le_refl _)
  have hsd := DSch.depth_weight s.depth s (Nat.le_refl _)
  refine dpure_of_dwp mixed Tryz.func8 rfl (fun _ _ => by kernel_rfl) (rs := [.cell 6 29]) rfl (by kernel_rfl) (closed_encV _) (fun S hS => ?_)
  (simp (disch := first | decide | omega | (simp only [nx]; first | done | omega)) only [go_sem, Nat.reduceMul, opCs]; (repeat (with_reducible refine And.intro (by first | omega | assumption | rfl) ?_)))
  refine DCalls.of_pure (refGet_d v o.path .no hok hw (by omega)) ?_
  (simp (disch := first | decide | omega | (simp only [nx]; first | done | omega)) only [go_sem, Nat.reduceMul, getD_]; (repeat (with_reducible refine And.intro (by first | omega | assumption | rfl) ?_)))
  refine DCalls.of_pure (refCheck_d o s h hs hsw) ?_
  by_cases hc : chkO o s = 0
  · have b1 : (((chkO o s : Nat) : Int) != 0) = false := by simp [hc]
    (simp (disch := first | decide | omega | (simp only [nx]; first | done | omega)) only [go_sem, Nat.reduceMul, b1]; (repeat (with_reducible refine And.intro (by first | omega | assumption | rfl) ?_)))
    refine DCalls.of_pure (refFitsTop_d v s hok hs (by omega) (by omega)) ?_
    cases hf : fitsTop v s with
    | false =>
      (simp (disch := first | decide | omega | (simp only [nx]; first | done | omega)) only [go_sem, Nat.reduceMul]; (repeat (with_reducible refine And.intro (by first | omega | assumption | rfl) ?_)))
      refine ⟨?_, (by (repeat' first | assumption | exact St.Sub.refl _ | exact RowOk.sub (by assumption) (by assumption) | refine St.Sub.trans ?_ (RowOk.sub (by assumption) (by assumption)) | refine St.Sub.add ?_ ?_ _ | refine St.Sub.set ?_ ?_ ?_ _ | refine St.Sub.keep ?_ ?_ | refine St.WF.leave ?_ _ | refine St.WF.add ?_ _ | refine St.WF.set ?_ ?_ _ | refine St.WF.grow ?_ _ _ _ | refine St.WF.keep ?_ ?_ | (first | omega | (simp only [RowOk.lo, nx]; first | done | omega))))⟩
      rw [apR, if_neg (by rw [hf]; simp)]
      simp only [frz_encV]
    | true =>
    cases hg : getV o.path v with
    | none =>
      (simp (disch := first | decide | omega | (simp only [nx]; first | done | omega)) only [go_sem, Nat.reduceMul, Option.getD_none, Option.isSome_none]; (repeat (with_reducible refine And.intro (by first | omega | assumption | rfl) ?_)))
      refine ⟨?_, (by (repeat' first | assumption | exact St.Sub.refl _ | exact RowOk.sub (by assumption) (by assumption) | refine St.Sub.trans ?_ (RowOk.sub (by assumption) (by assumption)) | refine St.Sub.add ?_ ?_ _ | refine St.Sub.set ?_ ?_ ?_ _ | refine St.Sub.keep ?_ ?_ | refine St.WF.leave ?_ _ | refine St.WF.add ?_ _ | refine St.WF.set ?_ ?_ _ | refine St.WF.grow ?_ _ _ _ | refine St.WF.keep ?_ ?_ | (first | omega | (simp only [RowOk.lo, nx]; first | done | omega))))⟩
      rw [apR, if_pos ⟨hc, hf⟩, apV, hg]
      simp only [frz_encV]
    | some x =>
      have hap : apR s v o = chV (fun _ => mdV o x) o.path v := by rw [apR, if_pos ⟨hc, hf⟩, apV, hg]
      rw [hap]
      have hxw := getV_wt _ hg
      (simp (disch := first | decide | omega | (simp only [nx]; first | done | omega)) only [go_sem, Nat.reduceMul, Option.getD_some, Option.isSome_some]; (repeat (with_reducible refine And.intro (by first | omega | assumption | rfl) ?_)))
      refine DCalls.of_pure (refElem_d x o.id (by omega)) ?_
      obtain ⟨hr, hrs, t, ht, hfo⟩ := chkO_zero hc
      obtain ⟨hS', _⟩ := RS.of_top hrs
      obtain ⟨_, hGv⟩ := fitsTop_iff.1 hf
      obtain ⟨g1, g2, _⟩ := GV.get o.path hGv hS' ht hg
      have hkr : 1 ≤ o.kind ∧ o.kind ≤ 4 := by
        by_cases hh : o.kind < 1 ∨ 4 < o.kind
        · rw [rightO_kind hh] at hr; cases hr
        · omega
      by_cases k1 : o.kind = 1
      · have c1 : (o.kind == 1) = true := by simp [k1]
        have hm : mdV o x = o.val := by rw [mdV, if_pos k1]
        rw [hm]
        (simp (disch := first | decide | omega | (simp only [nx]; first | done | omega)) only [go_sem, Nat.reduceMul, c1, opCs]; (repeat (with_reducible refine And.intro (by first | omega | assumption | rfl) ?_)))
        refine DCalls.of_pure (refPut_d o.val o.path .no v hok hw (by omega)) ?_
        (simp (disch := first | decide | omega | (simp only [nx]; first | done | omega)) only [go_sem, Nat.reduceMul]; (repeat (with_reducible refine And.intro (by first | omega | assumption | rfl) ?_)))
        refine ⟨?_, (by (repeat' first | assumption | exact St.Sub.refl _ | exact RowOk.sub (by assumption) (by assumption) | refine St.Sub.trans ?_ (RowOk.sub (by assumption) (by assumption)) | refine St.Sub.add ?_ ?_ _ | refine St.Sub.set ?_ ?_ ?_ _ | refine St.Sub.keep ?_ ?_ | refine St.WF.leave ?_ _ | refine St.WF.add ?_ _ | refine St.WF.set ?_ ?_ _ | refine St.WF.grow ?_ _ _ _ | refine St.WF.keep ?_ ?_ | (first | omega | (simp only [RowOk.lo, nx]; first | done | omega))))⟩
        simp only [frz_encV]
      have c1 : (o.kind == 1) = false := by simp [k1]
      have hm : mdV o x = lsV o x := by rw [mdV, if_neg k1]
      have t6 := (fitO_made hr hfo g1 g2).2 k1
      have hl := g1.list t6
      have hsh := g1.shape t6
      have hxs := ofList_self x
      have hek : elemI x o.id = if o.id ∈ x.ids then ((ixN x.ids o.id : Nat) : Int) else -1 := by rw [elemI, if_pos hl.kind, ixI]
      have hlen := hl.len
      have hmost := hl.most
      rw [hm]
      by_cases k2 : o.kind = 2
      · have c2 : (o.kind == 2) = true := by simp [k2]
        by_cases hc2 : o.id ∉ x.ids ∧ x.ids.length < 12
        · have e1 : elemI x o.id = -1 := by rw [hek, if_neg hc2.1]
          have d1 : decide ((x.ids.length : Int) < 12) = true := by have := hc2.2; simp; omega
          have hls : lsV o x = listV (x.ids.take (plK x o.after) ++ [o.id] ++ x.ids.drop (plK x o.after)) (x.parts.take (plK x o.after) ++ [o.val] ++ x.parts.drop (plK x o.after)) := by rw [lsV, if_pos k2, if_pos hc2, plV, hsh]
          rw [hls]
          have dm : decide ((-1 : Int) < 0) = true := by decide
          (simp (disch := first | decide | omega | (simp only [nx]; first | done | omega)) only [go_sem, Nat.reduceMul, c1, c2, opCs, e1, d1, dm]; (repeat (with_reducible refine And.intro (by first | omega | assumption | rfl) ?_)))
          refine DCalls.of_pure (refIn_d x o.val o.id o.after hlen (by omega) hl.nodup) ?_
          (simp (disch := first | decide | omega | (simp only [nx]; first | done | omega)) only [go_sem, Nat.reduceMul]; (repeat (with_reducible refine And.intro (by first | omega | assumption | rfl) ?_)))
          refine DCalls.of_pure (refPut_d _ o.path .no v hok hw (by omega)) ?_
          (simp (disch := first | decide | omega | (simp only [nx]; first | done | omega)) only [go_sem, Nat.reduceMul]; (repeat (with_reducible refine And.intro (by first | omega | assumption | rfl) ?_)))
          refine ⟨?_, (by (repeat' first | assumption | exact St.Sub.refl _ | exact RowOk.sub (by assumption) (by assumption) | refine St.Sub.trans ?_ (RowOk.sub (by assumption) (by assumption)) | refine St.Sub.add ?_ ?_ _ | refine St.Sub.set ?_ ?_ ?_ _ | refine St.Sub.keep ?_ ?_ | refine St.WF.leave ?_ _ | refine St.WF.add ?_ _ | refine St.WF.set ?_ ?_ _ | refine St.WF.grow ?_ _ _ _ | refine St.WF.keep ?_ ?_ | (first | omega | (simp only [RowOk.lo, nx]; first | done | omega))))⟩
          simp only [frz_encV]
        · have hls : lsV o x = x := by rw [lsV, if_pos k2, if_neg hc2]
          rw [hls]
          have d1 : (decide (elemI x o.id < 0) = false) ∨ (decide (elemI x o.id < 0) = true ∧ decide ((x.ids.length : Int) < 12) = false) := by
            rw [hek]
            by_cases hmm : o.id ∈ x.ids
            · rw [if_pos hmm]; left; simp
            · right
              rw [if_neg hmm]
              refine ⟨by simp, ?_⟩
              have : ¬ x.ids.length < 12 := fun hh => hc2 ⟨hmm, hh⟩
              simp; omega
          rcases d1 with d1 | ⟨d1, d2⟩
          · (simp (disch := first | decide | omega | (simp only [nx]; first | done | omega)) only [go_sem, Nat.reduceMul, c1, c2, opCs, d1]; (repeat (with_reducible refine And.intro (by first | omega | assumption | rfl) ?_)))
            refine DCalls.of_pure (refPut_d x o.path .no v hok hw (by omega)) ?_
            (simp (disch := first | decide | omega | (simp only [nx]; first | done | omega)) only [go_sem, Nat.reduceMul]; (repeat (with_reducible refine And.intro (by first | omega | assumption | rfl) ?_)))
            refine ⟨?_, (by (repeat' first | assumption | exact St.Sub.refl _ | exact RowOk.sub (by assumption) (by assumption) | refine St.Sub.trans ?_ (RowOk.sub (by assumption) (by assumption)) | refine St.Sub.add ?_ ?_ _ | refine St.Sub.set ?_ ?_ ?_ _ | refine St.Sub.keep ?_ ?_ | refine St.WF.leave ?_ _ | refine St.WF.add ?_ _ | refine St.WF.set ?_ ?_ _ | refine St.WF.grow ?_ _ _ _ | refine St.WF.keep ?_ ?_ | (first | omega | (simp only [RowOk.lo, nx]; first | done | omega))))⟩
            simp only [frz_encV]
          · (simp (disch := first | decide | omega | (simp only [nx]; first | done | omega)) only [go_sem, Nat.reduceMul, c1, c2, opCs, d1, d2]; (repeat (with_reducible refine And.intro (by first | omega | assumption | rfl) ?_)))
            refine DCalls.of_pure (refPut_d x o.path .no v hok hw (by omega)) ?_
            (simp (disch := first | decide | omega | (simp only [nx]; first | done | omega)) only [go_sem, Nat.reduceMul]; (repeat (with_reducible refine And.intro (by first | omega | assumption | rfl) ?_)))
            refine ⟨?_, (by (repeat' first | assumption | exact St.Sub.refl _ | exact RowOk.sub (by assumption) (by assumption) | refine St.Sub.trans ?_ (RowOk.sub (by assumption) (by assumption)) | refine St.Sub.add ?_ ?_ _ | refine St.Sub.set ?_ ?_ ?_ _ | refine St.Sub.keep ?_ ?_ | refine St.WF.leave ?_ _ | refine St.WF.add ?_ _ | refine St.WF.set ?_ ?_ _ | refine St.WF.grow ?_ _ _ _ | refine St.WF.keep ?_ ?_ | (first | omega | (simp only [RowOk.lo, nx]; first | done | omega))))⟩
            simp only [frz_encV]
      have c2 : (o.kind == 2) = false := by simp [k2]
      by_cases k3 : o.kind = 3
      · have c3 : (o.kind == 3) = true := by simp [k3]
        have hls : lsV o x = listV (woI x o.id x.ids.length) (woP x o.id x.ids.length) := by
          rw [lsV, if_neg k2]
          by_cases hmm : o.id ∈ x.ids
          · rw [if_neg (by simpa using hmm), if_neg (by omega), woI_one hmm hl.nodup, woP_one hmm hl.nodup hlen, tkV, hsh]; rfl
          · rw [if_pos hmm, woI_all hmm, woP_all hmm hlen, ← hsh, hxs]
        rw [hls]
        (simp (disch := first | decide | omega | (simp only [nx]; first | done | omega)) only [go_sem, Nat.reduceMul, c1, c2, c3, opCs]; (repeat (with_reducible refine And.intro (by first | omega | assumption | rfl) ?_)))
        refine DCalls.of_pure (refWithout_d x o.id hlen (by omega)) ?_
        (simp (disch := first | decide | omega | (simp only [nx]; first | done | omega)) only [go_sem, Nat.reduceMul]; (repeat (with_reducible refine And.intro (by first | omega | assumption | rfl) ?_)))
        refine DCalls.of_pure (refPut_d _ o.path .no v hok hw (by omega)) ?_
        (simp (disch := first | decide | omega | (simp only [nx]; first | done | omega)) only [go_sem, Nat.reduceMul]; (repeat (with_reducible refine And.intro (by first | omega | assumption | rfl) ?_)))
        refine ⟨?_, (by (repeat' first | assumption | exact St.Sub.refl _ | exact RowOk.sub (by assumption) (by assumption) | refine St.Sub.trans ?_ (RowOk.sub (by assumption) (by assumption)) | refine St.Sub.add ?_ ?_ _ | refine St.Sub.set ?_ ?_ ?_ _ | refine St.Sub.keep ?_ ?_ | refine St.WF.leave ?_ _ | refine St.WF.add ?_ _ | refine St.WF.set ?_ ?_ _ | refine St.WF.grow ?_ _ _ _ | refine St.WF.keep ?_ ?_ | (first | omega | (simp only [RowOk.lo, nx]; first | done | omega))))⟩
        simp only [frz_encV]
      have c3 : (o.kind == 3) = false := by simp [k3]
      have k4 : o.kind = 4 := by omega
      have c4 : (o.kind == 4) = true := by simp [k4]
      by_cases hmm : o.id ∈ x.ids
      · have e1 : elemI x o.id = ((ixN x.ids o.id : Nat) : Int) := by rw [hek, if_pos hmm]
        have hk := ix_lt hmm
        have hkp : ixN x.ids o.id < x.parts.length := by omega
        have gp := getD_map encV x.parts _ hkp
        have d1 : decide (0 ≤ ((ixN x.ids o.id : Nat) : Int)) = true := by simp
        have hw1 := woI_one hmm hl.nodup
        have hw2 := woP_one hmm hl.nodup hlen
        have hls : lsV o x = plV (listV (woI x o.id x.ids.length) (woP x o.id x.ids.length)) o.id o.after x.parts[ixN x.ids o.id] := by
          rw [lsV, if_neg k2, if_neg (by simpa using hmm), if_pos k4, hw1, hw2, tkV, hsh, elK, getD_at hkp]
        have hln : (listV (woI x o.id x.ids.length) (woP x o.id x.ids.length)).parts.length = (listV (woI x o.id x.ids.length) (woP x o.id x.ids.length)).ids.length := by
          show (woP x o.id x.ids.length).length = (woI x o.id x.ids.length).length
          rw [hw1, hw2, del_len _ hk, del_len _ hkp, hlen]
        have hln2 : (listV (woI x o.id x.ids.length) (woP x o.id x.ids.length)).ids.length ≤ 1000 := by
          show (woI x o.id x.ids.length).length ≤ 1000
          have := woI_len x o.id x.ids.length
          omega
        have hnd : (listV (woI x o.id x.ids.length) (woP x o.id x.ids.length)).ids.Nodup := by
          show (woI x o.id x.ids.length).Nodup
          rw [hw1]
          exact (sub_del _ _).nodup hl.nodup
        rw [hls]
        (simp (disch := first | decide | omega | (simp only [nx]; first | done | omega)) only [go_sem, Nat.reduceMul, c1, c2, c3, c4, opCs, e1, d1]; (repeat (with_reducible refine And.intro (by first | omega | assumption | rfl) ?_)))
        refine ddraw_mk 14 (by kernel_rfl) ?_
        (simp (disch := first | decide | omega | (simp only [nx]; first | done | omega)) only [go_sem, Nat.reduceMul, opCs, gp]; (repeat (with_reducible refine And.intro (by first | omega | assumption | rfl) ?_)))
        refine dqgo_mk (refWithout_d x o.id hlen (by omega)) ?_
        (simp (disch := first | decide | omega | (simp only [nx]; first | done | omega)) only [go_sem, Nat.reduceMul, opCs, gp]; (repeat (with_reducible refine And.intro (by first | omega | assumption | rfl) ?_)))
        refine dqgo_mk (refIn_d _ x.parts[ixN x.ids o.id] o.id o.after hln hln2 hnd) ?_
        (simp (disch := first | decide | omega | (simp only [nx]; first | done | omega)) only [go_sem, Nat.reduceMul]; (repeat (with_reducible refine And.intro (by first | omega | assumption | rfl) ?_)))
        refine DCalls.of_pure (refPut_d _ o.path .no v hok hw (by omega)) ?_
        (simp (disch := first | decide | omega | (simp only [nx]; first | done | omega)) only [go_sem, Nat.reduceMul]; (repeat (with_reducible refine And.intro (by first | omega | assumption | rfl) ?_)))
        refine ⟨?_, (by (repeat' first | assumption | exact St.Sub.refl _ | exact RowOk.sub (by assumption) (by assumption) | refine St.Sub.trans ?_ (RowOk.sub (by assumption) (by assumption)) | refine St.Sub.add ?_ ?_ _ | refine St.Sub.set ?_ ?_ ?_ _ | refine St.Sub.keep ?_ ?_ | refine St.WF.leave ?_ _ | refine St.WF.add ?_ _ | refine St.WF.set ?_ ?_ _ | refine St.WF.grow ?_ _ _ _ | refine St.WF.keep ?_ ?_ | (first | omega | (simp only [RowOk.lo, nx]; first | done | omega))))⟩
        simp only [frz_encV]
        rfl
      · have e1 : elemI x o.id = -1 := by rw [hek, if_neg hmm]
        have hls : lsV o x = x := by rw [lsV, if_neg k2, if_pos hmm]
        rw [hls]
        have dm : decide ((0 : Int) ≤ -1) = false := by decide
        (simp (disch := first | decide | omega | (simp only [nx]; first | done | omega)) only [go_sem, Nat.reduceMul, c1, c2, c3, c4, opCs, e1, dm]; (repeat (with_reducible refine And.intro (by first | omega | assumption | rfl) ?_)))
        refine DCalls.of_pure (refPut_d x o.path .no v hok hw (by omega)) ?_
        (simp (disch := first | decide | omega | (simp only [nx]; first | done | omega)) only [go_sem, Nat.reduceMul]; (repeat (with_reducible refine And.intro (by first | omega | assumption | rfl) ?_)))
        refine ⟨?_, (by (repeat' first | assumption | exact St.Sub.refl _ | exact RowOk.sub (by assumption) (by assumption) | refine St.Sub.trans ?_ (RowOk.sub (by assumption) (by assumption)) | refine St.Sub.add ?_ ?_ _ | refine St.Sub.set ?_ ?_ ?_ _ | refine St.Sub.keep ?_ ?_ | refine St.WF.leave ?_ _ | refine St.WF.add ?_ _ | refine St.WF.set ?_ ?_ _ | refine St.WF.grow ?_ _ _ _ | refine St.WF.keep ?_ ?_ | (first | omega | (simp only [RowOk.lo, nx]; first | done | omega))))⟩
        simp only [frz_encV]
  · have b1 : (((chkO o s : Nat) : Int) != 0) = true := by simp [hc]
    (simp (disch := first | decide | omega | (simp only [nx]; first | done | omega)) only [go_sem, Nat.reduceMul, b1]; (repeat (with_reducible refine And.intro (by first | omega | assumption | rfl) ?_)))
    refine ⟨?_, (by (repeat' first | assumption | exact St.Sub.refl _ | exact RowOk.sub (by assumption) (by assumption) | refine St.Sub.trans ?_ (RowOk.sub (by assumption) (by assumption)) | refine St.Sub.add ?_ ?_ _ | refine St.Sub.set ?_ ?_ ?_ _ | refine St.Sub.keep ?_ ?_ | refine St.WF.leave ?_ _ | refine St.WF.add ?_ _ | refine St.WF.set ?_ ?_ _ | refine St.WF.grow ?_ _ _ _ | refine St.WF.keep ?_ ?_ | (first | omega | (simp only [RowOk.lo, nx]; first | done | omega))))⟩
    rw [apR, if_neg (fun h => hc h.1)]
    simp only [frz_encV]
end Go.Proofs.YtjjhjhjphhpeiaaGreat

namespace Go.Proofs.YtjjhjhjphhpeiaaGreat
open Go.RowKit
set_option linter.unusedSimpArgs false
set_option linter.unusedVariables false
theorem applyV_ok {s : DSch} {v : DVal} {l : List DOp} (hok : okV v) (ho : ∀ o ∈ l, OkO o) : okV (applyV s v l) := by
  unfold applyV
  split
  · rename_i h
    exact (fold_fits l (fitsTop_iff.1 h).2 hok ho).2
  · exact hok
end Go.Proofs.YtjjhjhjphhpeiaaGreat

namespace Go.Proofs.YtjjhjhjphhpeiaaGreat
open Go.RowKit
set_option linter.unusedSimpArgs false
set_option linter.unusedVariables false
theorem applyV_snoc {s : DSch} {v : DVal} {l : List DOp} {i : Nat} (hok : okV v) (hi : i < l.length) (ho : ∀ o ∈ l.take i, OkO o) : applyV s v (l.take (i + 1)) = apR s (applyV s v (l.take i)) l[i] := by
  unfold applyV
  by_cases hf : fitsTop v s = true
  · rw [if_pos hf, if_pos hf, List.take_succ_eq_append_getElem hi, List.foldl_append]
    have h1 := (fold_fits (l.take i) (fitsTop_iff.1 hf).2 hok ho).1
    have h2 : fitsTop ((l.take i).foldl (apS s) v) s = true := fitsTop_iff.2 ⟨(fitsTop_iff.1 hf).1, h1⟩
    show apS s _ l[i] = apR s _ l[i]
    unfold apS apR
    by_cases hc : chkO l[i] s = 0
    · rw [if_pos hc, if_pos ⟨hc, h2⟩]
    · rw [if_neg hc, if_neg (fun h => hc h.1)]
  · rw [if_neg hf, if_neg hf, apR, if_neg (fun h => hf h.2)]
theorem applyV_wt {s : DSch} {v : DVal} {l : List DOp} (hok : okV v) (hw : v.weight ≤ 1000000) (ho : ∀ o ∈ l, OkO o) : (applyV s v l).weight ≤ 1000000 := by
  unfold applyV
  split
  · rename_i hf
    have h1 := (fold_fits l (fitsTop_iff.1 hf).2 hok ho).1
    exact h1.wt (fitsTop_iff.1 hf).1
  · exact hw
theorem applyV_nil (s : DSch) (v : DVal) : applyV s v [] = v := by unfold applyV; split <;> rfl
noncomputable def wantV (s : DSch) (v : DVal) (l : List DOp) : Nat → DVal
  | 0 => v
  | i + 1 => applyV s v (l.take (i + 1))
theorem wantV_eq (s : DSch) (v : DVal) (l : List DOp) (i : Nat) : wantV s v l i = applyV s v (l.take i) := by
  cases i with
  | zero => rw [List.take_zero, applyV_nil]; rfl
  | succ i => rfl
set_option maxRecDepth 200000 in
set_option maxHeartbeats 8000000 in
theorem opApplies_d (s : DSch) (v : DVal) (l : List DOp) (own : Own) (hs : okS s) (hok : okV v) (hi : ∀ o ∈ l, InO o) : DPure Tryz.prog 3 [encS s, encV v, .sl own (l.map encO)] (.v (.bool true)) := by
  refine dpure_of_dwp mixed Tryz.func3 rfl (fun _ _ => by kernel_rfl) (rs := [.tmp 6]) rfl (by kernel_rfl) trivial (fun S hS => ?_)
  (simp (disch := first | decide | omega | (simp only [nx]; first | done | omega)) only [go_sem, Nat.reduceMul]; (repeat (with_reducible refine And.intro (by first | omega | assumption | rfl) ?_)))
  refine DCalls.of_pure (greatS_d s hs) ?_
  cases g1 : decide (roomS 12 s 300 < 0) with
  | true =>
    (simp (disch := first | decide | omega | (simp only [nx]; first | done | omega)) only [go_sem, Nat.reduceMul]; (repeat (with_reducible refine And.intro (by first | omega | assumption | rfl) ?_)))
    refine DCalls.of_pure awake12_d ?_
    (simp (disch := first | decide | omega | (simp only [nx]; first | done | omega)) only [go_sem, Nat.reduceMul]; (repeat (with_reducible refine And.intro (by first | omega | assumption | rfl) ?_)))
    refine ⟨?_, (by (repeat' first | assumption | exact St.Sub.refl _ | exact RowOk.sub (by assumption) (by assumption) | refine St.Sub.trans ?_ (RowOk.sub (by assumption) (by assumption)) | refine St.Sub.add ?_ ?_ _ | refine St.Sub.set ?_ ?_ ?_ _ | refine St.Sub.keep ?_ ?_ | refine St.WF.leave ?_ _ | refine St.WF.add ?_ _ | refine St.WF.set ?_ ?_ _ | refine St.WF.grow ?_ _ _ _ | refine St.WF.keep ?_ ?_ | (first | omega | (simp only [RowOk.lo, nx]; first | done | omega))))⟩
    rfl
  | false =>
  have hsw := (room_spec 12 s 300 (by have := of_decide_eq_false g1; omega)).1
  have n1 := of_decide_eq_false g1
  (simp (disch := first | decide | omega | (simp only [nx]; first | done | omega)) only [go_sem, Nat.reduceMul]; (repeat (with_reducible refine And.intro (by first | omega | assumption | rfl) ?_)))
  refine DCalls.of_pure (greatV_d v hok) ?_
  cases g2 : decide (roomV 12 v 300 < 0) with
  | true =>
    (simp (disch := first | decide | omega | (simp only [nx]; first | done | omega)) only [go_sem, Nat.reduceMul]; (repeat (with_reducible refine And.intro (by first | omega | assumption | rfl) ?_)))
    refine DCalls.of_pure awake12_d ?_
    (simp (disch := first | decide | omega | (simp only [nx]; first | done | omega)) only [go_sem, Nat.reduceMul]; (repeat (with_reducible refine And.intro (by first | omega | assumption | rfl) ?_)))
    refine ⟨?_, (by (repeat' first | assumption | exact St.Sub.refl _ | exact RowOk.sub (by assumption) (by assumption) | refine St.Sub.trans ?_ (RowOk.sub (by assumption) (by assumption)) | refine St.Sub.add ?_ ?_ _ | refine St.Sub.set ?_ ?_ ?_ _ | refine St.Sub.keep ?_ ?_ | refine St.WF.leave ?_ _ | refine St.WF.add ?_ _ | refine St.WF.set ?_ ?_ _ | refine St.WF.grow ?_ _ _ _ | refine St.WF.keep ?_ ?_ | (first | omega | (simp only [RowOk.lo, nx]; first | done | omega))))⟩
    rfl
  | false =>
  have hvw := (roomV_spec 12 v 300 (by have := of_decide_eq_false g2; omega)).1
  have n2 := of_decide_eq_false g2
  by_cases h20 : 20 < l.length
  · have b1 : decide ((20 : Int) < (l.length : Int)) = true := by simp; omega
    (simp (disch := first | decide | omega | (simp only [nx]; first | done | omega)) only [go_sem, Nat.reduceMul, b1]; (repeat (with_reducible refine And.intro (by first | omega | assumption | rfl) ?_)))
    refine DCalls.of_pure awake12_d ?_
    (simp (disch := first | decide | omega | (simp only [nx]; first | done | omega)) only [go_sem, Nat.reduceMul]; (repeat (with_reducible refine And.intro (by first | omega | assumption | rfl) ?_)))
    refine ⟨?_, (by (repeat' first | assumption | exact St.Sub.refl _ | exact RowOk.sub (by assumption) (by assumption) | refine St.Sub.trans ?_ (RowOk.sub (by assumption) (by assumption)) | refine St.Sub.add ?_ ?_ _ | refine St.Sub.set ?_ ?_ ?_ _ | refine St.Sub.keep ?_ ?_ | refine St.WF.leave ?_ _ | refine St.WF.add ?_ _ | refine St.WF.set ?_ ?_ _ | refine St.WF.grow ?_ _ _ _ | refine St.WF.keep ?_ ?_ | (first | omega | (simp only [RowOk.lo, nx]; first | done | omega))))⟩
    rfl
  have b1 : decide ((20 : Int) < (l.length : Int)) = false := by simp; omega
  (simp (disch := first | decide | omega | (simp only [nx]; first | done | omega)) only [go_sem, Nat.reduceMul, b1]; (repeat (with_reducible refine And.intro (by first | omega | assumption | rfl) ?_)))
  (refine dloop_var (fun t => List.contains [6, 8, 22, 23, 24, 25, 26, 27, 28, 29, 30, 31, 32, 33, 34, 35, 36, 37, 38, 39, 40] t) (by kernel_rfl) ?_ (l.length) (S.next + 1 + 1) (fun i => .box 29 (encV (wantV s v l i)).cells) ?_ (fun i f => i ≤ l.length ∧ f 8 = .v (.int .i64 (i : Nat)) ∧ (∀ o ∈ l.take i, OkO o)) ?_ ?_; (exact (by (repeat' first | assumption | refine St.WF.leave ?_ _ | refine St.WF.add ?_ _ | refine St.WF.set ?_ ?_ _ | refine St.WF.grow ?_ _ _ _ | refine St.WF.keep ?_ ?_ | (first | omega | (simp only [RowOk.lo, nx]; first | done | omega))))); (exact (by (first | (simp (disch := first | decide | omega | (simp only [nx]; first | done | omega)) only [go_sem, Nat.reduceMul]; first | done | rfl) | rfl))); (exact ⟨(by omega), (by (first | (simp (disch := first | decide | omega | (simp only [nx]; first | done | omega)) only [go_sem, Nat.reduceMul]; first | done | rfl) | rfl)), ((fun o ho => by cases ho))⟩); intro i g tn hn hT hg hI; obtain ⟨le, q8, hno⟩ := hI; have q2 := hg 2 rfl; have q3 := hg 3 rfl; have q4 := hg 4 rfl; have q7 := hg 7 rfl; simp (disch := first | decide | omega | (simp only [nx]; first | done | omega)) only [go_sem, Nat.reduceMul] at q2 q3 q4 q7; clear hg; have hn' := hn; try simp only [add_next, set_next, grow_next, leave_next, drop_next] at hn')
  rw [wantV_eq] at *
  have hwo := applyV_ok (s := s) hok hno
  have hww := applyV_wt (s := s) hok (by omega) hno
  by_cases hlt : i < l.length
  · have b2 : decide ((i : Int) < (l.length : Int)) = true := by simp; omega
    have w1 : IntKind.i64.wrap ((i : Int) + 1) = ((i + 1 : Nat) : Int) := IntWalk.i64_in _ ⟨by omega, by omega⟩
    have hin := hi _ (List.getElem_mem hlt)
    have hgd := getD_map encO l i hlt
    have hsucc := applyV_snoc (s := s) hok hlt hno
    (simp (disch := first | decide | omega | (simp only [nx]; first | done | omega)) only [go_sem, Nat.reduceMul, q2, q8, b2, hgd]; (repeat (with_reducible refine And.intro (by first | omega | assumption | rfl) ?_)))
    refine DCalls.of_pure (greatO_d l[i] hin) ?_
    cases g3 : greatO l[i] with
    | true =>
      (simp (disch := first | decide | omega | (simp only [nx]; first | done | omega)) only [go_sem, Nat.reduceMul]; (repeat (with_reducible refine And.intro (by first | omega | assumption | rfl) ?_)))
      refine DCalls.of_pure awake12_d ?_
      (simp (disch := first | decide | omega | (simp only [nx]; first | done | omega)) only [go_sem, Nat.reduceMul]; (repeat (with_reducible refine And.intro (by first | omega | assumption | rfl) ?_)))
      refine ⟨?_, (by (repeat' first | assumption | exact St.Sub.refl _ | exact RowOk.sub (by assumption) (by assumption) | refine St.Sub.trans ?_ (RowOk.sub (by assumption) (by assumption)) | refine St.Sub.add ?_ ?_ _ | refine St.Sub.set ?_ ?_ ?_ _ | refine St.Sub.keep ?_ ?_ | refine St.WF.leave ?_ _ | refine St.WF.add ?_ _ | refine St.WF.set ?_ ?_ _ | refine St.WF.grow ?_ _ _ _ | refine St.WF.keep ?_ ?_ | (first | omega | (simp only [RowOk.lo, nx]; first | done | omega))))⟩
      rfl
    | false =>
      have hoo := hin.ok g3
      (simp (disch := first | decide | omega | (simp only [nx]; first | done | omega)) only [go_sem, Nat.reduceMul, q2, q3, q7, q8]; (repeat (with_reducible refine And.intro (by first | omega | assumption | rfl) ?_)))
      refine ddraw_mk 7 (by kernel_rfl) ?_
      (simp (disch := first | decide | omega | (simp only [nx]; first | done | omega)) only [go_sem, Nat.reduceMul, q2, q3, q7, q8, hgd]; (repeat (with_reducible refine And.intro (by first | omega | assumption | rfl) ?_)))
      refine dqgo_mk (refApply_d l[i] s (applyV s v (l.take i)) hoo hs (by omega) hwo hww) ?_
      rw [← hsucc]
      (simp (disch := first | decide | omega | (simp only [nx]; first | done | omega)) only [go_sem, Nat.reduceMul, q2, q3, q7, q8, w1]; (repeat (with_reducible refine And.intro (by first | omega | assumption | rfl) ?_)))
      (refine ⟨by omega, St.Sub.upd hn (by simp only [wantV_eq]) (by (repeat' first | assumption | exact St.Sub.refl _ | exact RowOk.sub (by assumption) (by assumption) | refine St.Sub.trans ?_ (RowOk.sub (by assumption) (by assumption)) | refine St.Sub.add ?_ ?_ _ | refine St.Sub.set ?_ ?_ ?_ _ | refine St.Sub.keep ?_ ?_ | refine St.WF.leave ?_ _ | refine St.WF.add ?_ _ | refine St.WF.set ?_ ?_ _ | refine St.WF.grow ?_ _ _ _ | refine St.WF.keep ?_ ?_ | (first | omega | (simp only [RowOk.lo, nx]; first | done | omega)))), ?_⟩; refine ⟨by omega, ?_, ?_⟩; all_goals (try (first | (simp (disch := first | decide | omega | (simp only [nx]; first | done | omega)) only [go_sem, Nat.reduceMul, w1]; first | done | rfl) | rfl)))
      intro o ho
      rw [List.take_succ_eq_append_getElem hlt] at ho
      rcases List.mem_append.1 ho with ho | ho
      · exact hno o ho
      · rw [List.mem_singleton] at ho; subst ho; exact hoo
  · have b2 : decide ((i : Int) < (l.length : Int)) = false := by simp; omega
    have hil : l.take i = l := List.take_of_length_le (by omega)
    rw [hil] at hno hwo hww ⊢
    (simp (disch := first | decide | omega | (simp only [nx]; first | done | omega)) only [go_sem, Nat.reduceMul, q2, q8, b2]; (repeat (with_reducible refine And.intro (by first | omega | assumption | rfl) ?_)))
    refine ddraw_mk 10 (by kernel_rfl) ?_
    (simp (disch := first | decide | omega | (simp only [nx]; first | done | omega)) only [go_sem, Nat.reduceMul, q2, q3, q4, q7, q8]; (repeat (with_reducible refine And.intro (by first | omega | assumption | rfl) ?_)))
    refine dqgo_mk (applyAll_d s v l own hs (by omega) hok (by omega) (by omega) hno) ?_
    (simp (disch := first | decide | omega | (simp only [nx]; first | done | omega)) only [go_sem, Nat.reduceMul, q2, q3, q4, q7, q8]; (repeat (with_reducible refine And.intro (by first | omega | assumption | rfl) ?_)))
    refine dqgo_mk (refSameV_d _ _ hwo hwo) ?_
    rw [eqB_true rfl]
    (simp (disch := first | decide | omega | (simp only [nx]; first | done | omega)) only [go_sem, Nat.reduceMul, q2, q3, q4, q7, q8]; (repeat (with_reducible refine And.intro (by first | omega | assumption | rfl) ?_)))
    refine dqgo_mk awake12_d ?_
    (simp (disch := first | decide | omega | (simp only [nx]; first | done | omega)) only [go_sem, Nat.reduceMul]; (repeat (with_reducible refine And.intro (by first | omega | assumption | rfl) ?_)))
    refine ⟨?_, (by (repeat' first | assumption | exact St.Sub.refl _ | exact RowOk.sub (by assumption) (by assumption) | refine St.Sub.trans ?_ (RowOk.sub (by assumption) (by assumption)) | refine St.Sub.add ?_ ?_ _ | refine St.Sub.set ?_ ?_ ?_ _ | refine St.Sub.keep ?_ ?_ | refine St.WF.leave ?_ _ | refine St.WF.add ?_ _ | refine St.WF.set ?_ ?_ _ | refine St.WF.grow ?_ _ _ _ | refine St.WF.keep ?_ ?_ | (first | omega | (simp only [RowOk.lo, nx]; first | done | omega))))⟩
    rfl
end Go.Proofs.YtjjhjhjphhpeiaaGreat

namespace Go.Proofs.YtjjhjhjphhpeiaaGreat
open Go.ChangeShapes Go.WideShapes Go.ChangeAt Go.RowKit
theorem opApplies_own : ownKnob Tryz.prog.godebug = none := by kernel_rfl
theorem opApplies_laidOut : laidOutB Tryz.prog = true := by kernel_rfl
set_option maxRecDepth 100000 in
theorem opApplies_lifted (os : Os) (started : os.Started) (H : Type) (enc : TypeId × Value → H) :
    ReturnsInHanded {} Tryz.checked os 3 .any (Rows.opAppliesSpec.pre6 enc Tryz.prog Tryz.f3 Rows.opAppliesRow.domain false) (Rows.opAppliesSpec.post enc Tryz.prog Tryz.f3 false true false false) := by
  refine returnsInHanded_of_change_sized (C := Tryz.checked) opApplies_own started (by kernel_rfl) Tryz.func3
    (ChangeSpec.witness6 (enc := enc) (C := Tryz.checked) false ⟨#[], #[.agg #[.int .i64 0, .slice none 0 0, .slice none 0 0], .agg #[.int .i64 0, .int .i64 0, .string "".toUTF8, .slice none 0 0, .slice none 0 0, .slice none 0 0], .slice none 0 0], []⟩ 8 (by kernel_rfl) (by kernel_rfl) (by kernel_rfl) (by kernel_rfl)) ?_
  intro W base args ds gs before hval0 hW hcnd hsz0 _
  have hval : ∀ (j : Nat) t v, Tryz.f3.params[j]? = some t → args[j]? = some v → Value.okWide Tryz.prog W .any base t v := hval0
  have hsz : (DataW.weightsEach Tryz.prog (Tryz.f3.params.toList ++ Rows.opAppliesSpec.plain.varTypes Tryz.prog) (ds ++ gs)).all (· ≤ reachBytes) = true := hsz0
  have hW' := hW
  obtain ⟨p, q, hA0, hV, rfl, hfz, hnd⟩ := hW
  have hA : DataW.TrodAll enc Tryz.prog W 0 (fun _ => true) true Tryz.f3.params.toList args.toList ds p := hA0
  obtain ⟨rfl, rfl⟩ := trodVars_none hV
  rw [Tryz.params3] at hA hval hsz
  have hA1 := hA
  obtain ⟨v0, vs0, d0, ds0, p0, q0, hargs, rfl, rfl, h0, r0⟩ := trodAll_cons hA
  obtain ⟨v1, vs1, d1, ds1, p1, q1, rfl, rfl, rfl, h1, r1⟩ := trodAll_cons r0
  obtain ⟨v2, vs2, d2, ds2, p2, q2, rfl, rfl, rfl, h2, r2⟩ := trodAll_cons r1
  obtain ⟨rfl, rfl, rfl⟩ := trodAll_nil r2
  obtain rfl : args = #[v0, v1, v2] := by cases args; simp_all
  have z0 : Sized Tryz.prog 25 d0 := sized_of_each (j := 0) hsz rfl rfl
  have k0 : Value.okWide Tryz.prog W .any base 25 v0 := hval 0 _ _ rfl rfl
  have z1 : Sized Tryz.prog 29 d1 := sized_of_each (j := 1) hsz rfl rfl
  have k1 : Value.okWide Tryz.prog W .any base 29 v1 := hval 1 _ _ rfl rfl
  have z2 : Sized Tryz.prog 30 d2 := sized_of_each (j := 2) hsz rfl rfl
  have k2 : Value.okWide Tryz.prog W .any base 30 v2 := hval 2 _ _ rfl rfl
  clear hA0 hval0 hsz hsz0 hval
  have key : Calls Tryz.prog 3 #[v0, v1, v2] W (Gives (.bool true) W) := by
    obtain ⟨s, cs, rfl, hs⟩ := open_schema h0 z0 k0
    obtain ⟨t, ds, rfl, ht⟩ := open_value h1 z1 k1
    obtain ⟨l, hl, _, hr⟩ := open_ops h2 z2 k2
    exact gives_of_dpure (vs := [.agg cs.toArray, .agg ds.toArray, v2]) (opApplies_d s t l .no hs.ok ht.ok hl) (by simp only [RepL]; exact ⟨_, _, rfl, rep_sch (fun b i _ => fix_nil b i) hs, _, _, rfl, rep_val (fun b i _ => fix_nil b i) ht, _, _, rfl, hr _ _ fix_nil, rfl⟩)
  refine key.mono fun e W' ⟨he, bel⟩ => ?_
  subst he
  exact ⟨_, rfl, _, _, _, [], _, [], hW', trodAll_mk1 (shut_bool Tryz.underlying4 _), trodAll_below opApplies_laidOut bel (by kernel_rfl) hA1, rfl, bel.frame _, fun h => by cases h⟩

theorem opApplies_holds : Rows.OpAppliesSaid :=
  OpenClaim.holds_of_wide 3 Tryz.f3 rfl rfl rfl rfl rfl rfl rfl ⟨rfl, rfl, rfl, rfl, rfl⟩ rfl rfl rfl rfl rfl (by kernel_rfl) Tryz.func3 (by kernel_rfl)
    (of_decide_eq_true (by kernel_rfl)) (by unfold Func.isWrapper; first | (rw [if_pos (by decide +kernel)]; kernel_rfl) | (rw [if_neg (by decide +kernel)]; exact ⟨rfl, rfl⟩))
    (fun os started H enc _ => opApplies_lifted os started H enc)
#print axioms opApplies_holds
end Go.Proofs.YtjjhjhjphhpeiaaGreat
