/- WaitingKeeps answers true for any size and any calls, and leaves its arguments as they were. Conditions: none but the statement's own. -/
import Derived.Test.YtonncfminojejaaDoorK6
import Derived.Test.YtonncfminojejaaDoorCards
import Derived.Test.YtonncfminojejaaDoorTie
import Derived.SevenTiedAt
import Derived.RowKit
import Derived.RowKitTokens
set_option linter.unusedVariables false
set_option linter.unusedSimpArgs false
namespace Go.Proofs.YtonncfminojejaaDoor
open Go.RowKit
theorem bg3 (n : H32) (x B : D) : (n.1.map bD ++ [x]).take 32 ++ [B] ++ (n.1.map bD ++ [x]).drop 33 = n.1.map bD ++ [B] := by
  have h := len_encH n
  rw [List.take_append_of_le_length (by omega), List.take_of_length_le (by omega), List.drop_append, List.drop_of_length_le (by omega), h]
  simp
theorem bg4 (n : H32) (zs : List D) (h : H32) (hz : zs.length = 32) : (n.1.map bD ++ zs).take 32 ++ h.1.map bD ++ (n.1.map bD ++ zs).drop 64 = n.1.map bD ++ h.1.map bD := by
  have hl := len_encH n
  rw [List.take_append_of_le_length (by omega), List.take_of_length_le (by omega), List.drop_of_length_le (by rw [List.length_append]; omega), List.append_nil]
def raddN (L : List DGu) (size : Nat) (n : H32) (l : List H32) : Nat := if hasR L n then 8 else if l = [] then 1 else if size ≤ L.length then 12 else 0
def rowsA (rs : List DRow) (L : List DGu) (size : Nat) (n : H32) (l : List H32) : List DRow := if raddN L size n l = 0 then rs ++ l.map fun h => (n, h) else rs
def gusA (L : List DGu) (size : Nat) (n : H32) (b : List UInt8) (l : List H32) : List DGu := if raddN L size n l = 0 then L ++ [(n, b)] else L
section
set_option maxRecDepth 200000
set_option maxHeartbeats 8000000
theorem radd_at {S : St} {k : Nat} {rs : List DRow} {L : List DGu} {size : Nat} (hrm : RefAt k rs L size S) (hlr : rs.length ≤ 1000000) (hl : L.length ≤ 1000000) (n : H32) (ob ol : Own) (b : List UInt8) (l : List H32) (hb : b.length ≤ 1000000) (hll : l.length ≤ 1000000) :
    DCalls Tryd.prog 26 [.loc k 0, encH n, .sl ob (b.map bD), .sl ol (l.map encH)] S fun d T => d = .v (.int .i64 (raddN L size n l : Int)) ∧ RefAt k (rowsA rs L size n l) (gusA L size n b l) size T ∧ FrR k S T := by
  obtain ⟨o1, o2, h1, r1, r2⟩ := hrm.ex
  refine dcalls_inline mixed Tryd.func26 rfl (fun _ _ => by kernel_rfl) (rs := [.tmp 8]) rfl (by kernel_rfl) (fun hS => ?_)
  have hkl := hS.lt h1
  have ln := n.2
  (simp (disch := first | decide | omega | (simp only [nx]; first | done | omega)) only [go_sem, ln]; (repeat with_reducible refine aI ?_))
  have hsub : S.Sub (S.add (.box 37 (n.1.map bD))) := (St.Sub.refl S).add hS _
  have hob1 : (S.add (.box 37 (n.1.map bD))).ob S.next = some (.box 37 (n.1.map bD)) := by (first | (simp (disch := first | decide | omega | (simp only [nx]; first | done | omega)) only [go_sem]; first | done | rfl) | rfl)
  have h1' := hsub.ob _ _ h1
  have hW : (S.add (.box 37 (n.1.map bD))).WF := hS.add _
  have hfr0 : FrR k S (S.add (.box 37 (n.1.map bD))) := .of_sub hsub
  have hrm1 := hrm.mono hsub.ob
  have hnk : S.next ≠ k := by omega
  refine go_at (rhas_at hrm1 hl n) ?_
  have r1' := r1.mono fun j e n e' => hsub.ob j _ e'
  have r2' := r2.mono fun j e n e' => hsub.ob j _ e'
  generalize hS1 : S.add (.box 37 (n.1.map bD)) = S1 at *
  cases hh : hasR L n with
  | true =>
    (simp (disch := first | decide | omega | (simp only [nx]; first | done | omega)) only [go_sem]; (repeat with_reducible refine aI ?_))
    have e1 : raddN L size n l = 8 := by simp [raddN, hh]
    have e2 : rowsA rs L size n l = rs := by simp [rowsA, e1]
    have e3 : gusA L size n b l = L := by simp [gusA, e1]
    rw [e1, e2, e3]
    exact ⟨rfl, hrm1, hfr0⟩
  | false =>
    by_cases h0 : l = []
    · subst h0
      have c1 : ((([] : List H32).length : Int) == 0) = true := by decide
      (simp (disch := first | decide | omega | (simp only [nx]; first | done | omega)) only [go_sem, c1]; (repeat with_reducible refine aI ?_))
      have e1 : raddN L size n [] = 1 := by simp [raddN, hh]
      have e2 : rowsA rs L size n [] = rs := by simp [rowsA, e1]
      have e3 : gusA L size n b [] = L := by simp [gusA, e1]
      rw [e1, e2, e3]
      exact ⟨rfl, hrm1, hfr0⟩
    · have c1 : ((l.length : Int) == 0) = false := by
        have := List.length_pos_iff.2 h0
        rw [beq_eq_false_iff_ne]; omega
      (simp (disch := first | decide | omega | (simp only [nx]; first | done | omega)) only [go_sem, c1]; (repeat with_reducible refine aI ?_))
      refine ddraw_mk 10 (by kernel_rfl) ?_
      by_cases hf : size ≤ L.length
      · have c2 : decide (((L.length : Nat) : Int) ≥ ((size : Nat) : Int)) = true := decide_eq_true (by omega)
        (simp (disch := first | decide | omega | (simp only [nx]; first | done | omega)) only [go_sem, h1', c2]; (repeat with_reducible refine aI ?_))
        have e1 : raddN L size n l = 12 := by simp [raddN, hh, h0, hf]
        have e2 : rowsA rs L size n l = rs := by simp [rowsA, e1]
        have e3 : gusA L size n b l = L := by simp [gusA, e1]
        rw [e1, e2, e3]
        exact ⟨rfl, hrm1, hfr0⟩
      · have c2 : decide (((L.length : Nat) : Int) ≥ ((size : Nat) : Int)) = false := decide_eq_false (by omega)
        (simp (disch := first | decide | omega | (simp only [nx]; first | done | omega)) only [go_sem, h1', c2]; (repeat with_reducible refine aI ?_))
        have e1 : raddN L size n l = 0 := by simp [raddN, hh, h0, hf]
        have e2 : rowsA rs L size n l = rs ++ l.map fun h => (n, h) := by simp [rowsA, e1]
        have e3 : gusA L size n b l = L ++ [(n, b)] := by simp [gusA, e1]
        rw [e1, e2, e3]
        refine ddraw_any (fun S' => S'.ob k = some (.box 34 [.v (.int .i64 ((size : Nat) : Int)), .sl o1 (rs.map encRw), .sl o2 (L.map encGu)]) ∧ S'.ob S.next = some (.box 37 (n.1.map bD))) 14 (by (first | (simp (disch := first | decide | omega | (simp only [nx]; first | done | omega)) only [go_sem, h1', hob1, true_and, and_true]; first | done | rfl) | rfl)) (by kernel_rfl) ?_
        (refine s_take 0 rfl (by kernel_rfl) (by kernel_rfl) (v := ?v1) (fun S' hz => dquietR_of ?h1) <| s_take 1 rfl (by kernel_rfl) (by kernel_rfl) (v := ?v2) (fun S' hz => dquietR_of ?h2) <| s_take 2 rfl (by kernel_rfl) (by kernel_rfl) (v := ?v3) (fun S' hz => dquietR_of ?h3) <| s_take 3 rfl (by kernel_rfl) (by kernel_rfl) (v := ?v4) (fun S' hz => dquietR_of ?h4) <| s_take 4 rfl (by kernel_rfl) (by kernel_rfl) (v := ?v5) (fun S' hz => dquietR_of ?h5) <| s_take 5 rfl (by kernel_rfl) (by kernel_rfl) (v := ?v6) (fun S' hz => dquietR_of ?h6) <| s_take 6 rfl (by kernel_rfl) (by kernel_rfl) (v := ?v7) (fun S' hz => dquietR_of ?h7) <| s_take 7 rfl (by kernel_rfl) (by kernel_rfl) (v := ?v8) (fun S' hz => dquietR_of ?h8) <| ?k8; (case h1 | h2 | h3 | h4 | h5 | h6 | h7 | h8 => ((simp (disch := first | decide | omega | (simp only [nx]; first | done | omega)) only [go_sem, hz.1, hz.2, ln, hz]; (repeat with_reducible refine aI ?_)); first | done | exact rfl | omega)))
        refine s_take 8 rfl (by kernel_rfl) (by kernel_rfl) (v := .sl .no (b.map bD)) (fun S' hz => dquietR_of ?hqa) ?kqa; (case hqa => ((simp (disch := first | decide | omega | (simp only [nx]; first | done | omega)) only [go_sem, hz.1, hz.2]; (repeat with_reducible refine aI ?_)); exact ⟨wBy b, by omega, by omega⟩))
        refine s_take 9 rfl (by kernel_rfl) (by kernel_rfl) (v := encGu (n, b)) (fun S' hz => dquietR_of ?hqb) ?kqb; (case hqb => ((simp (disch := first | decide | omega | (simp only [nx]; first | done | omega)) only [go_sem, hz.1, hz.2, ln]; (repeat with_reducible refine aI ?_)); rw [bg3]; exact ⟨by rw [List.length_append, len_encH]; exact Nat.le_refl _, rfl⟩))
        (refine s_take 10 rfl (by kernel_rfl) (by kernel_rfl) (v := ?v9) (fun S' hz => dquietR_of ?h9) ?k9; (case h9 => ((simp (disch := first | decide | omega | (simp only [nx]; first | done | omega)) only [go_sem, hz.1, hz.2, ln, hz]; (repeat with_reducible refine aI ?_)); first | done | exact rfl | omega)))
        (refine s_split [11] (by kernel_rfl) (by simp) ?_; intro j_ hj_; obtain rfl : j_ = 11 := (by simpa using hj_); clear hj_; refine s_op rfl ?_; (simp (disch := first | decide | omega | (simp only [nx]; first | done | omega)) only [go_sem]; (repeat with_reducible refine aI ?_)))
        refine app_more elGu zeGu r2'.app (by rw [szGu]; exact wGu _) (by rw [szGu]; exact fun d hd => by obtain rfl := List.mem_singleton.1 hd; exact width_encGu _) (by rw [List.length_map]; simp; omega) (by rw [List.length_map, byGu]; simp; omega) ?_
        rw [List.length_map]
        have gk : ∀ j o, S1.ob j = some o → (∀ n, o ≠ .row 73 n) → (S1.grow o2 73 (L.length + 1)).ob j = some o := fun j o e ho => grow_keepO hW r2' e ho
        have z1 := gk k _ h1' (fun n h => by cases h)
        have z2 := gk S.next _ hob1 (fun n h => by cases h)
        refine ⟨⟨z1, z2⟩, ?_⟩
        (refine s_take 12 rfl (by kernel_rfl) (by kernel_rfl) (v := ?v10) (fun S' hz => dquietR_of ?h10) <| s_take 13 rfl (by kernel_rfl) (by kernel_rfl) (v := ?v11) (fun S' hz => dquietR_of ?h11) <| ?k11; (case h10 | h11 => ((simp (disch := first | decide | omega | (simp only [nx]; first | done | omega)) only [go_sem, hz.1, hz.2, hz]; (repeat with_reducible refine aI ?_)); first | done | exact rfl | omega)))
        (refine s_done (by kernel_rfl) ?_; (simp (disch := first | decide | omega | (simp only [nx]; first | done | omega)) only [go_sem, z1, z2]; (repeat with_reducible refine aI ?_)))
        have hgn : (S1.grow o2 73 (L.length + 1)).next = S1.next + 1 := grow_next _ _ _ _
        have hk1 := hW.lt h1'
        have uw : ((S1.grow o2 73 (L.length + 1)).set k (.box 34 [.v (.int .i64 ((size : Nat) : Int)), .sl o1 (rs.map encRw), .sl (.row S1.next) (L.map encGu ++ [encGu (n, b)])])).WF := (hW.grow _ _ _).set (by rw [hgn]; omega) _
        have uk : ((S1.grow o2 73 (L.length + 1)).set k (.box 34 [.v (.int .i64 ((size : Nat) : Int)), .sl o1 (rs.map encRw), .sl (.row S1.next) (L.map encGu ++ [encGu (n, b)])])).ob k = some (.box 34 [.v (.int .i64 ((size : Nat) : Int)), .sl o1 ((rs ++ (l.take 0).map fun h => (n, h)).map encRw), .sl (.row S1.next) ((L ++ [(n, b)]).map encGu)]) := by rw [set_ob, if_pos rfl, List.map_append]; simp
        have un : ((S1.grow o2 73 (L.length + 1)).set k (.box 34 [.v (.int .i64 ((size : Nat) : Int)), .sl o1 (rs.map encRw), .sl (.row S1.next) (L.map encGu ++ [encGu (n, b)])])).ob S.next = some (.box 37 (n.1.map bD)) := by rw [set_ob, if_neg hnk]; exact z2
        have ur1 : RowO o1 75 (rs.length + 0) ((S1.grow o2 73 (L.length + 1)).set k (.box 34 [.v (.int .i64 ((size : Nat) : Int)), .sl o1 (rs.map encRw), .sl (.row S1.next) (L.map encGu ++ [encGu (n, b)])])) := by
          rcases r1'.mono' gk with h2 | ⟨g, h2, h3⟩
          · exact .inl h2
          · exact .inr ⟨g, h2, by rw [set_ob, if_neg (fun e => by rw [e, z1] at h3; cases h3)]; exact h3⟩
        have ur2 : RowO (.row S1.next) 73 (L ++ [(n, b)]).length ((S1.grow o2 73 (L.length + 1)).set k (.box 34 [.v (.int .i64 ((size : Nat) : Int)), .sl o1 (rs.map encRw), .sl (.row S1.next) (L.map encGu ++ [encGu (n, b)])])) := .inr ⟨S1.next, rfl, by rw [set_ob, if_neg (by omega), List.length_append]; exact growM_hit⟩
        have ufr : FrR k S1 ((S1.grow o2 73 (L.length + 1)).set k (.box 34 [.v (.int .i64 ((size : Nat) : Int)), .sl o1 (rs.map encRw), .sl (.row S1.next) (L.map encGu ++ [encGu (n, b)])])) := (FrR.grow hW r2' (.inr (.inl rfl)) k).trans ⟨Nat.le_refl _, fun j t cs hj e => by rw [set_ob, if_neg hj]; exact e, fun j e n _ _ _ hh => by rw [set_ob, if_neg (fun e' => by rw [e', z1] at hh; cases hh)]; exact hh⟩
        generalize (S1.grow o2 73 (L.length + 1)).set k (.box 34 [.v (.int .i64 ((size : Nat) : Int)), .sl o1 (rs.map encRw), .sl (.row S1.next) (L.map encGu ++ [encGu (n, b)])]) = U at *
        refine dloop_up (fun t => List.contains [9, 40, 41, 42, 43, 44, 45, 46, 47, 48, 49, 50, 51, 52, 53, 54, 55, 56, 57, 58, 59, 60] t) (by kernel_rfl) (by exact uw) l.length (fun i q T => i ≤ l.length ∧ q 9 = .v (.int .i64 ((i : Nat) : Int)) ∧ (∃ o1, T.ob k = some (.box 34 [.v (.int .i64 ((size : Nat) : Int)), .sl o1 ((rs ++ (l.take i).map fun h => (n, h)).map encRw), .sl (.row S1.next) ((L ++ [(n, b)]).map encGu)]) ∧ RowO o1 75 (rs.length + i) T) ∧ T.ob S.next = some (.box 37 (n.1.map bD)) ∧ RowO (.row S1.next) 73 (L ++ [(n, b)]).length T ∧ FrR k S1 T)
          ⟨by omega, by (first | (simp (disch := first | decide | omega | (simp only [nx]; first | done | omega)) only [go_sem]; first | done | rfl) | rfl), ⟨o1, uk, ur1⟩, un, ur2, ufr⟩ ?_
        clear uk ur1 un ur2 ufr uw
        rintro i q T hT hg ⟨le, q9, ⟨o1', tk, tr1⟩, tn0, tr2, tfr⟩
        (have q0 := hg 0 rfl; have q3 := hg 3 rfl; have q5 := hg 5 rfl; have q8 := hg 8 rfl; simp (disch := first | decide | omega | (simp only [nx]; first | done | omega)) only [go_sem] at q0 q3 q5 q8; clear hg)
        have hkT := hT.lt tk
        by_cases hlt : i < l.length
        · have b1 : decide ((i : Int) < (l.length : Int)) = true := decide_eq_true (by omega)
          have w1 : IntKind.i64.wrap ((i : Int) + 1) = ((i + 1 : Nat) : Int) := IntWalk.i64_in _ ⟨by omega, by omega⟩
          have la := l[i].2
          (simp (disch := first | decide | omega | (simp only [nx]; first | done | omega)) only [go_sem, q0, q3, q5, q9, b1, hlt, tk, tn0]; (repeat with_reducible refine aI ?_))
          have hlen : (rs ++ (l.take i).map fun h => (n, h)).length = rs.length + i := by rw [List.length_append, List.length_map, List.length_take, Nat.min_eq_left le]
          have tr1' : RowO o1' 75 (rs ++ (l.take i).map fun h => (n, h)).length T := by rw [hlen]; exact tr1
          have hnext : (rs ++ (l.take (i + 1)).map fun h => (n, h)) = (rs ++ (l.take i).map fun h => (n, h)) ++ [(n, l[i])] := by rw [List.take_succ_eq_append_getElem hlt, List.map_append, List.append_assoc]; rfl
          generalize hR : (rs ++ (l.take i).map fun h => (n, h)) = R at *
          refine ddraw_any (fun S' => S'.ob k = some (.box 34 [.v (.int .i64 ((size : Nat) : Int)), .sl o1' (R.map encRw), .sl (.row S1.next) ((L ++ [(n, b)]).map encGu)]) ∧ S'.ob S.next = some (.box 37 (n.1.map bD))) 15 (by (first | (simp (disch := first | decide | omega | (simp only [nx]; first | done | omega)) only [go_sem, tk, tn0, true_and, and_true]; first | done | rfl) | rfl)) (by kernel_rfl) ?_
          (refine s_take 0 rfl (by kernel_rfl) (by kernel_rfl) (v := ?v12) (fun S' hz => dquietR_of ?h12) <| s_take 1 rfl (by kernel_rfl) (by kernel_rfl) (v := ?v13) (fun S' hz => dquietR_of ?h13) <| s_take 2 rfl (by kernel_rfl) (by kernel_rfl) (v := ?v14) (fun S' hz => dquietR_of ?h14) <| s_take 3 rfl (by kernel_rfl) (by kernel_rfl) (v := ?v15) (fun S' hz => dquietR_of ?h15) <| s_take 4 rfl (by kernel_rfl) (by kernel_rfl) (v := ?v16) (fun S' hz => dquietR_of ?h16) <| s_take 5 rfl (by kernel_rfl) (by kernel_rfl) (v := ?v17) (fun S' hz => dquietR_of ?h17) <| s_take 6 rfl (by kernel_rfl) (by kernel_rfl) (v := ?v18) (fun S' hz => dquietR_of ?h18) <| s_take 7 rfl (by kernel_rfl) (by kernel_rfl) (v := ?v19) (fun S' hz => dquietR_of ?h19) <| s_take 8 rfl (by kernel_rfl) (by kernel_rfl) (v := ?v20) (fun S' hz => dquietR_of ?h20) <| s_take 9 rfl (by kernel_rfl) (by kernel_rfl) (v := ?v21) (fun S' hz => dquietR_of ?h21) <| ?k21; (case h12 | h13 | h14 | h15 | h16 | h17 | h18 | h19 | h20 | h21 => ((simp (disch := first | decide | omega | (simp only [nx]; first | done | omega)) only [go_sem, q0, q3, q5, q9, hz.1, hz.2, hlt, la, ln, hz]; (repeat with_reducible refine aI ?_)); first | done | exact rfl | omega)))
          refine s_take 10 rfl (by kernel_rfl) (by kernel_rfl) (v := encRw (n, l[i])) (fun S' hz => dquietR_of ?hqc) ?kqc; (case hqc => ((simp (disch := first | decide | omega | (simp only [nx]; first | done | omega)) only [go_sem, hz.1, hz.2, ln, la]; (repeat with_reducible refine aI ?_)); exact ⟨by rw [List.length_append, len_encH]; exact Nat.le_refl _, by rw [bg4 n _ l[i] rfl]; rfl⟩))
          (refine s_take 11 rfl (by kernel_rfl) (by kernel_rfl) (v := ?v22) (fun S' hz => dquietR_of ?h22) ?k22; (case h22 => ((simp (disch := first | decide | omega | (simp only [nx]; first | done | omega)) only [go_sem, hz.1, hz.2, ln, hz]; (repeat with_reducible refine aI ?_)); first | done | exact rfl | omega)))
          (refine s_split [12] (by kernel_rfl) (by simp) ?_; intro j_ hj_; obtain rfl : j_ = 12 := (by simpa using hj_); clear hj_; refine s_op rfl ?_; (simp (disch := first | decide | omega | (simp only [nx]; first | done | omega)) only [go_sem]; (repeat with_reducible refine aI ?_)))
          refine app_more elRw zeRw tr1'.app (by rw [szRw]; exact wRw _) (by rw [szRw]; exact fun d hd => by obtain rfl := List.mem_singleton.1 hd; exact width_encRw _) (by rw [List.length_map]; simp; omega) (by rw [List.length_map, byRw]; simp; omega) ?_
          rw [List.length_map]
          have gk : ∀ j o, T.ob j = some o → (∀ n, o ≠ .row 75 n) → (T.grow o1' 75 (R.length + 1)).ob j = some o := fun j o e ho => grow_keepO hT tr1' e ho
          have z1 := gk k _ tk (fun n h => by cases h)
          have z2 := gk S.next _ tn0 (fun n h => by cases h)
          refine ⟨⟨z1, z2⟩, ?_⟩
          (refine s_take 13 rfl (by kernel_rfl) (by kernel_rfl) (v := ?v23) (fun S' hz => dquietR_of ?h23) <| s_take 14 rfl (by kernel_rfl) (by kernel_rfl) (v := ?v24) (fun S' hz => dquietR_of ?h24) <| ?k24; (case h23 | h24 => ((simp (disch := first | decide | omega | (simp only [nx]; first | done | omega)) only [go_sem, q0, hz.1, hz.2, hz]; (repeat with_reducible refine aI ?_)); first | done | exact rfl | omega)))
          (refine s_done (by kernel_rfl) ?_; (simp (disch := first | decide | omega | (simp only [nx]; first | done | omega)) only [go_sem, q9, z1, z2, w1]; (repeat with_reducible refine aI ?_)))
          have hgn : (T.grow o1' 75 (R.length + 1)).next = T.next + 1 := grow_next _ _ _ _
          refine ⟨by omega, ((T.grow o1' 75 (R.length + 1)).set k (.box 34 [.v (.int .i64 ((size : Nat) : Int)), .sl (.row T.next) (R.map encRw ++ [encRw (n, l[i])]), .sl (.row S1.next) ((L ++ [(n, b)]).map encGu)])).ob, fun _ _ h => h, by omega, by (first | (simp (disch := first | decide | omega | (simp only [nx]; first | done | omega)) only [go_sem, w1]; first | done | rfl) | rfl), ⟨.row T.next, ?_, .inr ⟨T.next, rfl, ?_⟩⟩, ?_, ?_, ?_⟩
          · have em : (R ++ [(n, l[i])]).map encRw = R.map encRw ++ [encRw (n, l[i])] := by rw [List.map_append]; rfl
            rw [set_ob, if_pos rfl, hnext, em]
          · rw [set_ob, if_neg (by omega), ← Nat.add_assoc, ← hlen]; exact growM_hit
          · rw [set_ob, if_neg hnk]; exact z2
          · rcases tr2.mono' gk with h2 | ⟨g, h2, h3⟩
            · exact .inl h2
            · exact .inr ⟨g, h2, by rw [set_ob, if_neg (fun e => by rw [e, z1] at h3; cases h3)]; exact h3⟩
          · exact (tfr.trans (FrR.grow hT tr1' (.inl rfl) k)).trans ⟨Nat.le_refl _, fun j t cs hj e => by rw [set_ob, if_neg hj]; exact e, fun j e n _ _ _ hh => by rw [set_ob, if_neg (fun e' => by rw [e', z1] at hh; cases hh)]; exact hh⟩
        · have b1 : decide ((i : Int) < (l.length : Int)) = false := decide_eq_false (by omega)
          rw [List.take_of_length_le (by omega)] at tk
          have hie : i = l.length := by omega
          (simp (disch := first | decide | omega | (simp only [nx]; first | done | omega)) only [go_sem, q0, q3, q5, q9, b1, tk]; (repeat with_reducible refine aI ?_))
          refine ⟨⟨o1', .row S1.next, tk, by rw [List.length_append, List.length_map, ← hie]; exact tr1, tr2⟩, hfr0.trans tfr⟩
end
end Go.Proofs.YtonncfminojejaaDoor

namespace Go.Proofs.YtonncfminojejaaDoor
open Go.RowKit
theorem cells_encB (l : List UInt8) : (encB l).cells = [.sl .no (l.map bD)] := rfl
theorem ba_toList (l : List UInt8) : (ByteArray.mk l.toArray).toList = l := by simp
section
set_option maxRecDepth 200000
set_option maxHeartbeats 8000000
theorem same23_d (own own2 : Own) (a b : List (List UInt8)) (ha : a.length ≤ 1000000) : DPure Tryd.prog 23 [.sl own (a.map encB), .sl own2 (b.map encB)] (.v (.bool (decide (a = b)))) := by
  refine dpure_of_dwp mixed Tryd.func23 rfl (fun _ _ => by kernel_rfl) (rs := [.tmp 4]) rfl (by kernel_rfl) trivial (fun S hS => ?_)
  by_cases hl : a.length = b.length
  · have b0 : ((a.length : Int) != (b.length : Int)) = false := by simp [hl]
    (simp (disch := first | decide | omega | (simp only [nx]; first | done | omega)) only [go_sem, b0]; (repeat with_reducible refine aI ?_))
    (refine dloop_st (fun t => List.contains [4, 5, 11, 12, 13, 14, 15, 16, 17, 18, 19, 20, 21, 22, 23, 24, 25, 26, 27] t) (by kernel_rfl) ?_ (a.length) (fun i f => i ≤ a.length ∧ f 5 = .v (.int .i64 (i : Nat)) ∧ (∀ j, j < i → a[j]? = b[j]?)) ?_ ?_; (exact (by (repeat' first | assumption | refine St.WF.leave ?_ _ | refine St.WF.add ?_ _ | refine St.WF.set ?_ ?_ _ | refine St.WF.grow ?_ _ _ _ | refine St.WF.keep ?_ ?_ | (first | omega | (simp only [RowOk.lo, nx]; first | done | omega))))); (exact ⟨(by omega), (by (first | (simp (disch := first | decide | omega | (simp only [nx]; first | done | omega)) only [go_sem]; first | done | rfl) | rfl)), (fun j h => by omega)⟩); intro i g tn hn hT hg hI; obtain ⟨le, q5, hs⟩ := hI; have q0 := hg 0 rfl; have q1 := hg 1 rfl; simp (disch := first | decide | omega | (simp only [nx]; first | done | omega)) only [go_sem] at q0 q1; clear hg; have hn' := hn; try simp only [add_next, set_next, grow_next, leave_next, drop_next] at hn')
    by_cases hlt : i < a.length
    · have b1 : decide ((i : Int) < (a.length : Int)) = true := by simp; omega
      have w1 : IntKind.i64.wrap ((i : Int) + 1) = ((i + 1 : Nat) : Int) := IntWalk.i64_in _ ⟨by omega, by omega⟩
      have hlt' : i < b.length := by omega
      (simp (disch := first | decide | omega | (simp only [nx]; first | done | omega)) only [go_sem, q0, q1, q5, b1]; (repeat with_reducible refine aI ?_))
      refine ddraw_mk 11 (by kernel_rfl) ?_
      have ca := cells_encB a[i]
      have cb := cells_encB b[i]
      (simp (disch := first | decide | omega | (simp only [nx]; first | done | omega)) only [go_sem, q0, q1, q5, hlt, hlt', ca, cb, bytesD_map]; (repeat with_reducible refine aI ?_))
      by_cases he : a[i] = b[i]
      · have b2 : (!((ByteArray.mk a[i].toArray).toList == (ByteArray.mk b[i].toArray).toList)) = false := by rw [ba_toList, ba_toList, he]; simp
        (simp (disch := first | decide | omega | (simp only [nx]; first | done | omega)) only [go_sem, b2, q5, w1]; (repeat with_reducible refine aI ?_))
        (refine ⟨by omega, (by (repeat' first | assumption | exact St.Sub.refl _ | exact RowOk.sub (by assumption) (by assumption) | refine St.Sub.trans ?_ (RowOk.sub (by assumption) (by assumption)) | refine St.Sub.add ?_ ?_ _ | refine St.Sub.set ?_ ?_ ?_ _ | refine St.Sub.keep ?_ ?_ | refine St.WF.leave ?_ _ | refine St.WF.add ?_ _ | refine St.WF.set ?_ ?_ _ | refine St.WF.grow ?_ _ _ _ | refine St.WF.keep ?_ ?_ | (first | omega | (simp only [RowOk.lo, nx]; first | done | omega)))), ?_⟩; refine ⟨by omega, ?_, ?_⟩; all_goals (try (first | (simp (disch := first | decide | omega | (simp only [nx]; first | done | omega)) only [go_sem, w1]; first | done | rfl) | rfl)))
        intro j hj
        by_cases e : j = i
        · subst e; rw [List.getElem?_eq_getElem hlt, List.getElem?_eq_getElem hlt', he]
        · exact hs j (by omega)
      · have b2 : (!((ByteArray.mk a[i].toArray).toList == (ByteArray.mk b[i].toArray).toList)) = true := by rw [ba_toList, ba_toList]; simp [he]
        (simp (disch := first | decide | omega | (simp only [nx]; first | done | omega)) only [go_sem, b2]; (repeat with_reducible refine aI ?_))
        refine ⟨?_, (by (repeat' first | assumption | exact St.Sub.refl _ | exact RowOk.sub (by assumption) (by assumption) | refine St.Sub.trans ?_ (RowOk.sub (by assumption) (by assumption)) | refine St.Sub.add ?_ ?_ _ | refine St.Sub.set ?_ ?_ ?_ _ | refine St.Sub.keep ?_ ?_ | refine St.WF.leave ?_ _ | refine St.WF.add ?_ _ | refine St.WF.set ?_ ?_ _ | refine St.WF.grow ?_ _ _ _ | refine St.WF.keep ?_ ?_ | (first | omega | (simp only [RowOk.lo, nx]; first | done | omega))))⟩
        have : a ≠ b := fun h => he (by subst h; rfl)
        simp [D.frz, this]
    · have b1 : decide ((i : Int) < (a.length : Int)) = false := by simp; omega
      (simp (disch := first | decide | omega | (simp only [nx]; first | done | omega)) only [go_sem, q0, q5, b1]; (repeat with_reducible refine aI ?_))
      refine ⟨?_, (by (repeat' first | assumption | exact St.Sub.refl _ | exact RowOk.sub (by assumption) (by assumption) | refine St.Sub.trans ?_ (RowOk.sub (by assumption) (by assumption)) | refine St.Sub.add ?_ ?_ _ | refine St.Sub.set ?_ ?_ ?_ _ | refine St.Sub.keep ?_ ?_ | refine St.WF.leave ?_ _ | refine St.WF.add ?_ _ | refine St.WF.set ?_ ?_ _ | refine St.WF.grow ?_ _ _ _ | refine St.WF.keep ?_ ?_ | (first | omega | (simp only [RowOk.lo, nx]; first | done | omega))))⟩
      have : a = b := List.ext_getElem? fun j => by
        by_cases hj : j < i
        · exact hs j hj
        · rw [List.getElem?_eq_none (by omega), List.getElem?_eq_none (by omega)]
      simp [D.frz, this]
  · have b0 : ((a.length : Int) != (b.length : Int)) = true := by simp; omega
    (simp (disch := first | decide | omega | (simp only [nx]; first | done | omega)) only [go_sem, b0]; (repeat with_reducible refine aI ?_))
    refine ⟨?_, (by (repeat' first | assumption | exact St.Sub.refl _ | exact RowOk.sub (by assumption) (by assumption) | refine St.Sub.trans ?_ (RowOk.sub (by assumption) (by assumption)) | refine St.Sub.add ?_ ?_ _ | refine St.Sub.set ?_ ?_ ?_ _ | refine St.Sub.keep ?_ ?_ | refine St.WF.leave ?_ _ | refine St.WF.add ?_ _ | refine St.WF.set ?_ ?_ _ | refine St.WF.grow ?_ _ _ _ | refine St.WF.keep ?_ ?_ | (first | omega | (simp only [RowOk.lo, nx]; first | done | omega))))⟩
    have : a ≠ b := fun h => hl (by rw [h])
    simp [D.frz, this]
end
end Go.Proofs.YtonncfminojejaaDoor

namespace Go.Proofs.YtonncfminojejaaDoor
open Go.RowKit
structure DCl where
  k : UInt8
  n : H32
  b : List UInt8
  l : List H32
def clCs (o : DCl) : List D := bD o.k :: (o.n.1.map bD ++ [.sl .no (o.b.map bD), .sl .no (o.l.map encH)])
def encCl (o : DCl) : D := .agg (clCs o)
theorem cells_encCl (g : DCl) : (encCl g).cells = clCs g := rfl
theorem len_clCs (g : DCl) : (clCs g).length = 35 := by simp [clCs, g.n.2]
theorem width_encCl (g : DCl) : (encCl g).width = 35 := len_clCs g
theorem okCell_encCl (g : DCl) : (encCl g).okCell = true := rfl
theorem take_clCs (g : DCl) : (clCs g).take 35 = clCs g := List.take_of_length_le (by rw [len_clCs]; omega)
theorem agg_clCs (g : DCl) : D.agg (clCs g) = encCl g := rfl
theorem k_clCs (g : DCl) : (clCs g).getD 0 undefD = .v (.int .u8 (g.k.toNat : Int)) := rfl
theorem name_clCs (g : DCl) : ((clCs g).drop 1).take 32 = g.n.1.map bD := by
  show ((g.n.1.map bD ++ [_, _]).take 32) = _
  rw [List.take_append_of_le_length (by rw [len_encH]; omega), take_hash]
theorem b_clCs (g : DCl) : (clCs g).getD 33 undefD = .sl .no (g.b.map bD) := by
  rw [clCs, List.getD_cons_succ, List.getD_eq_getElem?_getD, List.getElem?_append_right (by rw [len_encH]; omega), len_encH]; rfl
theorem l_clCs (g : DCl) : (clCs g).getD 34 undefD = .sl .no (g.l.map encH) := by
  rw [clCs, List.getD_cons_succ, List.getD_eq_getElem?_getD, List.getElem?_append_right (by rw [len_encH]; omega), len_encH]; rfl
attribute [go_sem] cells_encCl len_clCs width_encCl okCell_encCl take_clCs agg_clCs k_clCs name_clCs b_clCs l_clCs
theorem FrW.ref {k km : Nat} {rs : List DRow} {L : List DGu} {size : Nat} {S T : St} (h : FrW k S T) (hk : km ≠ k) (r : RefAt km rs L size S) : RefAt km rs L size T := by
  obtain ⟨o1, o2, h1, h2, h3⟩ := r.ex
  refine ⟨o1, o2, h.box _ _ _ hk h1, ?_, ?_⟩
  · rcases h2 with h2 | ⟨g, h4, h5⟩
    · exact .inl h2
    · exact .inr ⟨g, h4, h.row _ _ _ (by decide) (by decide) h5⟩
  · rcases h3 with h2 | ⟨g, h4, h5⟩
    · exact .inl h2
    · exact .inr ⟨g, h4, h.row _ _ _ (by decide) (by decide) h5⟩
theorem FrR.room {k km : Nat} {gs : List DGst} {size : Nat} {S T : St} (h : FrR km S T) (hk : k ≠ km) (r : RoomAt k gs size S) : RoomAt k gs size T := by
  obtain ⟨o1, h1, h2⟩ := r.ex
  refine ⟨o1, h.box _ _ _ hk h1, ?_⟩
  rcases h2 with h2 | ⟨g, h4, h5⟩
  · exact .inl h2
  · exact .inr ⟨g, h4, h.row _ _ _ (by decide) (by decide) (by decide) h5⟩
def nxtG (gs : List DGst) (size : Nat) (o : DCl) : List DGst := if o.k = 0 then doneG gs o.n else if o.k = 1 then dropG gs o.n else addG gs size o.n o.b o.l
def nxtR (rs : List DRow) (L : List DGu) (size : Nat) (o : DCl) : List DRow := if o.k = 0 then doneR rs o.n else if o.k = 1 then rs.filter fun x => x.1 ≠ o.n else rowsA rs L size o.n o.l
def nxtL (rs : List DRow) (L : List DGu) (size : Nat) (o : DCl) : List DGu := if o.k = 0 then L.filter fun g => waitsR (doneR rs o.n) g.1 else if o.k = 1 then L.filter fun g => g.1 ≠ o.n else gusA L size o.n o.b o.l
section
set_option maxRecDepth 200000
set_option maxHeartbeats 8000000
theorem bin_beqW {x y : Operand} (a b : Bool) : dbin Tryd.prog .eql 4 x y (.v (.bool a)) (.v (.bool b)) = some (True, .v (.bool (a == b))) := by cases a <;> cases b <;> kernel_rfl
theorem code_erO (n : Nat) : DPure Tryd.prog 19 [erO n] (.v (.int .i64 (n : Int))) := by
  unfold erO
  by_cases h : n = 0
  · subst h
    rw [if_pos rfl]
    exact code0_nil
  · rw [if_neg h]
    exact code0_er _
theorem addN_eq {gs : List DGst} {rs : List DRow} {L : List DGu} (hr : RoomR gs rs L) (size : Nat) (hgl : gs.length ≤ size) (n : H32) (l : List H32) : addN gs size n l = raddN L size n l := by
  have hLl : L.length = gs.length := by rw [hr.l, List.length_map]
  unfold addN raddN
  rw [hr.has n, hLl]
  by_cases h : gs.length = size
  · rw [if_pos h, if_pos (by omega : size ≤ gs.length)]
  · rw [if_neg h, if_neg (by omega : ¬ size ≤ gs.length)]
theorem does_at {S : St} {kr km : Nat} {gs : List DGst} {rs : List DRow} {L : List DGu} {size : Nat} (hk : kr ≠ km) (hg : RoomAt kr gs size S) (hm : RefAt km rs L size S) (hr : RoomR gs rs L) (hok : GOk gs) (hgl : gs.length ≤ size) (hsz : size ≤ 32) (hrl : rs.length ≤ 1000000) (o : DCl) (hb : o.b.length ≤ 100) (hl : o.l.length ≤ 12) :
    DCalls Tryd.prog 9 [.loc kr 0, .loc km 0, encCl o] S fun d T => d = .v (.bool true) ∧ RoomAt kr (nxtG gs size o) size T ∧ RefAt km (nxtR rs L size o) (nxtL rs L size o) size T ∧ S.next ≤ T.next ∧ (∀ j t cs, j ≠ kr → j ≠ km → S.ob j = some (.box t cs) → T.ob j = some (.box t cs)) := by
  have hLl : L.length = gs.length := by rw [hr.l, List.length_map]
  refine dcalls_inline mixed Tryd.func9 rfl (fun _ _ => by kernel_rfl) (rs := [.tmp 6]) rfl (by kernel_rfl) (fun hS => ?_)
  have ln := o.n.2
  obtain ⟨ow, g1, _⟩ := hg.ex
  obtain ⟨q1, q2, m1, _, _⟩ := hm.ex
  have hkr := hS.lt g1
  have hkm := hS.lt m1
  have hsub : S.Sub (S.add (.box 41 (clCs o))) := (St.Sub.refl S).add hS _
  have hob1 : (S.add (.box 41 (clCs o))).ob S.next = some (.box 41 (clCs o)) := by (first | (simp (disch := first | decide | omega | (simp only [nx]; first | done | omega)) only [go_sem]; first | done | rfl) | rfl)
  have hg' := hg.mono hsub.ob
  have hm' := hm.mono hsub.ob
  have hW : (S.add (.box 41 (clCs o))).WF := hS.add _
  by_cases h0 : o.k = 0
  · have b0 : ((o.k.toNat : Int) == 0) = true := by rw [h0]; rfl
    have e1 : nxtG gs size o = doneG gs o.n := by rw [nxtG, if_pos h0]
    have e2 : nxtR rs L size o = doneR rs o.n := by rw [nxtR, if_pos h0]
    have e3 : nxtL rs L size o = L.filter fun g => waitsR (doneR rs o.n) g.1 := by rw [nxtL, if_pos h0]
    rw [e1, e2, e3]
    (simp (disch := first | decide | omega | (simp only [nx]; first | done | omega)) only [go_sem, b0]; (repeat with_reducible refine aI ?_))
    have hn1 : S.next ≠ kr := by omega
    have hn2 : S.next ≠ km := by omega
    have hs1 := hsub.next
    have hs2 := hsub.ob
    generalize S.add (.box 41 (clCs o)) = S1 at *
    refine ddraw_any (fun S' => S'.ob S.next = some (.box 41 (clCs o))) 10 (by (first | (simp (disch := first | decide | omega | (simp only [nx]; first | done | omega)) only [go_sem, hob1]; first | done | rfl) | rfl)) (by kernel_rfl) ?_
    (refine s_take 0 rfl (by kernel_rfl) (by kernel_rfl) (v := ?v1) (fun S' hz => dquietR_of ?h1) <| s_take 1 rfl (by kernel_rfl) (by kernel_rfl) (v := ?v2) (fun S' hz => dquietR_of ?h2) <| s_take 2 rfl (by kernel_rfl) (by kernel_rfl) (v := ?v3) (fun S' hz => dquietR_of ?h3) <| s_take 4 rfl (by kernel_rfl) (by kernel_rfl) (v := ?v4) (fun S' hz => dquietR_of ?h4) <| s_take 5 rfl (by kernel_rfl) (by kernel_rfl) (v := ?v5) (fun S' hz => dquietR_of ?h5) <| s_take 6 rfl (by kernel_rfl) (by kernel_rfl) (v := ?v6) (fun S' hz => dquietR_of ?h6) <| ?k6; (case h1 | h2 | h3 | h4 | h5 | h6 => ((simp (disch := first | decide | omega | (simp only [nx]; first | done | omega)) only [go_sem, hz, ln, hz]; (repeat with_reducible refine aI ?_)); first | done | exact rfl | omega)))
    refine s_split [3] (by kernel_rfl) (by simp) ?_
    intro j_ hj_
    obtain rfl : j_ = 3 := by simpa using hj_
    refine s_op rfl ?_
    (simp (disch := first | decide | omega | (simp only [nx]; first | done | omega)) only [go_sem]; (repeat with_reducible refine aI ?_))
    refine DCalls.mono (DCalls.wf (done_at hg' (by omega) hok o.n)) ?_
    rintro d T1 ⟨⟨rfl, tg, tf⟩, hT1⟩
    have t1 := tf.box _ _ _ hn1 hob1
    refine ⟨t1, ?_⟩
    refine s_split [7] (by kernel_rfl) (by simp) ?_
    intro j_ hj_
    obtain rfl : j_ = 7 := by simpa using hj_
    refine s_op rfl ?_
    (simp (disch := first | decide | omega | (simp only [nx]; first | done | omega)) only [go_sem]; (repeat with_reducible refine aI ?_))
    refine DCalls.mono (DCalls.wf (rdone_at (tf.ref (Ne.symm hk) hm') hrl (by omega) o.n)) ?_
    rintro d T2 ⟨⟨rfl, um, uf⟩, hT2⟩
    have u1 := uf.box _ _ _ hn2 t1
    refine ⟨u1, ?_⟩
    rw [done_out hr o.n]
    have hol : (outG gs o.n).length ≤ 1000000 := by
      have h1 := List.length_filter_le (fun g : DGst => decide (g.lk = [])) (gs.map (cutG o.n))
      rw [List.length_map] at h1
      rw [outG, List.length_map]
      omega
    have hsm := same23_d .no .no (outG gs o.n) (outG gs o.n) hol
    rw [decide_eq_true rfl] at hsm
    refine s_take 8 rfl (by kernel_rfl) (by kernel_rfl) (v := .v (.bool true)) (fun S' hz => dquietR_of ?hqa) ?kqa; (case hqa => ((simp (disch := first | decide | omega | (simp only [nx]; first | done | omega)) only [go_sem]; (repeat with_reducible refine aI ?_)); refine dqgo_mk hsm ?_; exact rfl))
    (refine s_take 9 rfl (by kernel_rfl) (by kernel_rfl) (v := ?v7) (fun S' hz => dquietR_of ?h7) ?k7; (case h7 => ((simp (disch := first | decide | omega | (simp only [nx]; first | done | omega)) only [go_sem, hz, hz]; (repeat with_reducible refine aI ?_)); first | done | exact rfl | omega)))
    (refine s_done (by kernel_rfl) ?_; (simp (disch := first | decide | omega | (simp only [nx]; first | done | omega)) only [go_sem, hT2]; (repeat with_reducible refine aI ?_)))
    refine ⟨uf.room hk tg, um, by have := tf.next; have := uf.next; omega, fun j t cs h1 h2 e => uf.box _ _ _ h2 (tf.box _ _ _ h1 (hs2 _ _ e))⟩
  · have b0 : ((o.k.toNat : Int) == 0) = false := by
      rw [beq_eq_false_iff_ne]
      intro e
      exact h0 (UInt8.toNat_inj.1 (by show o.k.toNat = 0; omega))
    by_cases h1 : o.k = 1
    · have b1 : ((o.k.toNat : Int) == 1) = true := by rw [h1]; rfl
      have e1 : nxtG gs size o = dropG gs o.n := by rw [nxtG, if_neg h0, if_pos h1]
      have e2 : nxtR rs L size o = rs.filter fun x => x.1 ≠ o.n := by rw [nxtR, if_neg h0, if_pos h1]
      have e3 : nxtL rs L size o = L.filter fun g => g.1 ≠ o.n := by rw [nxtL, if_neg h0, if_pos h1]
      rw [e1, e2, e3]
      (simp (disch := first | decide | omega | (simp only [nx]; first | done | omega)) only [go_sem, b0, b1]; (repeat with_reducible refine aI ?_))
      have hn1 : S.next ≠ kr := by omega
      have hn2 : S.next ≠ km := by omega
      have hs1 := hsub.next
      have hs2 := hsub.ob
      generalize S.add (.box 41 (clCs o)) = S1 at *
      refine ddraw_any (fun S' => S'.ob S.next = some (.box 41 (clCs o))) 10 (by (first | (simp (disch := first | decide | omega | (simp only [nx]; first | done | omega)) only [go_sem, hob1]; first | done | rfl) | rfl)) (by kernel_rfl) ?_
      (refine s_take 0 rfl (by kernel_rfl) (by kernel_rfl) (v := ?v8) (fun S' hz => dquietR_of ?h8) <| s_take 1 rfl (by kernel_rfl) (by kernel_rfl) (v := ?v9) (fun S' hz => dquietR_of ?h9) <| s_take 2 rfl (by kernel_rfl) (by kernel_rfl) (v := ?v10) (fun S' hz => dquietR_of ?h10) <| s_take 4 rfl (by kernel_rfl) (by kernel_rfl) (v := ?v11) (fun S' hz => dquietR_of ?h11) <| s_take 5 rfl (by kernel_rfl) (by kernel_rfl) (v := ?v12) (fun S' hz => dquietR_of ?h12) <| s_take 6 rfl (by kernel_rfl) (by kernel_rfl) (v := ?v13) (fun S' hz => dquietR_of ?h13) <| ?k13; (case h8 | h9 | h10 | h11 | h12 | h13 => ((simp (disch := first | decide | omega | (simp only [nx]; first | done | omega)) only [go_sem, hz, ln, hz]; (repeat with_reducible refine aI ?_)); first | done | exact rfl | omega)))
      refine s_split [3] (by kernel_rfl) (by simp) ?_
      intro j_ hj_
      obtain rfl : j_ = 3 := by simpa using hj_
      refine s_op rfl ?_
      (simp (disch := first | decide | omega | (simp only [nx]; first | done | omega)) only [go_sem]; (repeat with_reducible refine aI ?_))
      refine DCalls.mono (DCalls.wf (drop_at hg' (by omega) o.n)) ?_
      rintro d T1 ⟨⟨rfl, tg, tf⟩, hT1⟩
      have t1 := tf.box _ _ _ hn1 hob1
      refine ⟨t1, ?_⟩
      refine s_split [7] (by kernel_rfl) (by simp) ?_
      intro j_ hj_
      obtain rfl : j_ = 7 := by simpa using hj_
      refine s_op rfl ?_
      (simp (disch := first | decide | omega | (simp only [nx]; first | done | omega)) only [go_sem]; (repeat with_reducible refine aI ?_))
      refine DCalls.mono (DCalls.wf (rdrop_at (tf.ref (Ne.symm hk) hm') hrl (by omega) o.n)) ?_
      rintro d T2 ⟨⟨rfl, um, uf⟩, hT2⟩
      have u1 := uf.box _ _ _ hn2 t1
      refine ⟨u1, ?_⟩
      rw [hr.has o.n]
      have hbb : (hasG gs o.n == hasG gs o.n) = true := by simp
      (refine s_take 8 rfl (by kernel_rfl) (by kernel_rfl) (v := ?v14) (fun S' hz => dquietR_of ?h14) <| s_take 9 rfl (by kernel_rfl) (by kernel_rfl) (v := ?v15) (fun S' hz => dquietR_of ?h15) <| ?k15; (case h14 | h15 => ((simp (disch := first | decide | omega | (simp only [nx]; first | done | omega)) only [go_sem, hz, bin_beqW, hbb, hz]; (repeat with_reducible refine aI ?_)); first | done | exact rfl | omega)))
      (refine s_done (by kernel_rfl) ?_; (simp (disch := first | decide | omega | (simp only [nx]; first | done | omega)) only [go_sem, hT2]; (repeat with_reducible refine aI ?_)))
      refine ⟨uf.room hk tg, um, by have := tf.next; have := uf.next; omega, fun j t cs h1 h2 e => uf.box _ _ _ h2 (tf.box _ _ _ h1 (hs2 _ _ e))⟩
    · have b1 : ((o.k.toNat : Int) == 1) = false := by
        rw [beq_eq_false_iff_ne]
        intro e
        exact h1 (UInt8.toNat_inj.1 (by show o.k.toNat = 1; omega))
      have e1 : nxtG gs size o = addG gs size o.n o.b o.l := by rw [nxtG, if_neg h0, if_neg h1]
      have e2 : nxtR rs L size o = rowsA rs L size o.n o.l := by rw [nxtR, if_neg h0, if_neg h1]
      have e3 : nxtL rs L size o = gusA L size o.n o.b o.l := by rw [nxtL, if_neg h0, if_neg h1]
      rw [e1, e2, e3]
      (simp (disch := first | decide | omega | (simp only [nx]; first | done | omega)) only [go_sem, b0, b1]; (repeat with_reducible refine aI ?_))
      have hn1 : S.next ≠ kr := by omega
      have hn2 : S.next ≠ km := by omega
      have hs1 := hsub.next
      have hs2 := hsub.ob
      have hnn := addN_eq hr size hgl o.n o.l
      generalize S.add (.box 41 (clCs o)) = S1 at *
      refine ddraw_any (fun S' => S'.ob S.next = some (.box 41 (clCs o))) 19 (by (first | (simp (disch := first | decide | omega | (simp only [nx]; first | done | omega)) only [go_sem, hob1]; first | done | rfl) | rfl)) (by kernel_rfl) ?_
      (refine s_take 0 rfl (by kernel_rfl) (by kernel_rfl) (v := ?v16) (fun S' hz => dquietR_of ?h16) <| s_take 1 rfl (by kernel_rfl) (by kernel_rfl) (v := ?v17) (fun S' hz => dquietR_of ?h17) <| s_take 2 rfl (by kernel_rfl) (by kernel_rfl) (v := ?v18) (fun S' hz => dquietR_of ?h18) <| s_take 3 rfl (by kernel_rfl) (by kernel_rfl) (v := ?v19) (fun S' hz => dquietR_of ?h19) <| s_take 4 rfl (by kernel_rfl) (by kernel_rfl) (v := ?v20) (fun S' hz => dquietR_of ?h20) <| s_take 5 rfl (by kernel_rfl) (by kernel_rfl) (v := ?v21) (fun S' hz => dquietR_of ?h21) <| s_take 6 rfl (by kernel_rfl) (by kernel_rfl) (v := ?v22) (fun S' hz => dquietR_of ?h22) <| s_take 9 rfl (by kernel_rfl) (by kernel_rfl) (v := ?v23) (fun S' hz => dquietR_of ?h23) <| s_take 10 rfl (by kernel_rfl) (by kernel_rfl) (v := ?v24) (fun S' hz => dquietR_of ?h24) <| s_take 11 rfl (by kernel_rfl) (by kernel_rfl) (v := ?v25) (fun S' hz => dquietR_of ?h25) <| s_take 12 rfl (by kernel_rfl) (by kernel_rfl) (v := ?v26) (fun S' hz => dquietR_of ?h26) <| s_take 13 rfl (by kernel_rfl) (by kernel_rfl) (v := ?v27) (fun S' hz => dquietR_of ?h27) <| s_take 14 rfl (by kernel_rfl) (by kernel_rfl) (v := ?v28) (fun S' hz => dquietR_of ?h28) <| s_take 15 rfl (by kernel_rfl) (by kernel_rfl) (v := ?v29) (fun S' hz => dquietR_of ?h29) <| ?k29; (case h16 | h17 | h18 | h19 | h20 | h21 | h22 | h23 | h24 | h25 | h26 | h27 | h28 | h29 => ((simp (disch := first | decide | omega | (simp only [nx]; first | done | omega)) only [go_sem, hz, ln, hz]; (repeat with_reducible refine aI ?_)); first | done | exact rfl | omega)))
      refine s_split [7] (by kernel_rfl) (by simp) ?_
      intro j_ hj_
      obtain rfl : j_ = 7 := by simpa using hj_
      refine s_op rfl ?_
      (simp (disch := first | decide | omega | (simp only [nx]; first | done | omega)) only [go_sem]; (repeat with_reducible refine aI ?_))
      refine DCalls.mono (DCalls.wf (add_at hg' (by omega) o.n .no .no o.b o.l (by omega) (by omega))) ?_
      rintro d T1 ⟨⟨rfl, tg, tf⟩, hT1⟩
      have t1 := tf.box _ _ _ hn1 hob1
      refine ⟨t1, ?_⟩
      refine s_take 8 rfl (by kernel_rfl) (by kernel_rfl) (v := .v (.int .i64 (addN gs size o.n o.l : Int))) (fun S' hz => dquietR_of ?hqb) ?kqb; (case hqb => ((simp (disch := first | decide | omega | (simp only [nx]; first | done | omega)) only [go_sem]; (repeat with_reducible refine aI ?_)); refine dqgo_mk (code_erO _) ?_; exact rfl))
      refine s_split [16] (by kernel_rfl) (by simp) ?_
      intro j_ hj_
      obtain rfl : j_ = 16 := by simpa using hj_
      refine s_op rfl ?_
      (simp (disch := first | decide | omega | (simp only [nx]; first | done | omega)) only [go_sem]; (repeat with_reducible refine aI ?_))
      refine DCalls.mono (DCalls.wf (radd_at (tf.ref (Ne.symm hk) hm') hrl (by omega) o.n .no .no o.b o.l (by omega) (by omega))) ?_
      rintro d T2 ⟨⟨rfl, um, uf⟩, hT2⟩
      have u1 := uf.box _ _ _ hn2 t1
      refine ⟨u1, ?_⟩
      rw [← hnn]
      have hbb : ((addN gs size o.n o.l : Int) == (addN gs size o.n o.l : Int)) = true := by simp
      (refine s_take 17 rfl (by kernel_rfl) (by kernel_rfl) (v := ?v30) (fun S' hz => dquietR_of ?h30) <| s_take 18 rfl (by kernel_rfl) (by kernel_rfl) (v := ?v31) (fun S' hz => dquietR_of ?h31) <| ?k31; (case h30 | h31 => ((simp (disch := first | decide | omega | (simp only [nx]; first | done | omega)) only [go_sem, hz, hbb, hz]; (repeat with_reducible refine aI ?_)); first | done | exact rfl | omega)))
      (refine s_done (by kernel_rfl) ?_; (simp (disch := first | decide | omega | (simp only [nx]; first | done | omega)) only [go_sem, hT2]; (repeat with_reducible refine aI ?_)))
      refine ⟨uf.room hk tg, um, by have := tf.next; have := uf.next; omega, fun j t cs h1 h2 e => uf.box _ _ _ h2 (tf.box _ _ _ h1 (hs2 _ _ e))⟩
end
end Go.Proofs.YtonncfminojejaaDoor

namespace Go.Proofs.YtonncfminojejaaDoor
open Go.ChangeShapes Go.WideShapes Go.ChangeAt Go.RowKit Go.Deep Go.Joins
section
set_option maxRecDepth 20000
variable {H : Type} {enc : TypeId × Value → H} {w : World}
theorem trod_struct4 {P : Program} {t : TypeId} {f0 f1 f2 f3 : Field} {fuel : Nat} {cs : List Value} {x : DataW H × List MemPlace} (ht : P.underlying t = some (.struct #[f0, f1, f2, f3])) (h : DataW.trod enc P w 0 (fun _ => true) true fuel t cs = some x) :
    ∃ y0 y1 y2 y3 n, x.1 = .agg [y0.1, y1.1, y2.1, y3.1] ∧ cs.length = P.cellsOf t ∧ DataW.trod enc P w 0 (fun _ => true) true n f0.type ((cs.drop f0.offset).take (P.cellsOf f0.type)) = some y0 ∧
      DataW.trod enc P w 0 (fun _ => true) true n f1.type ((cs.drop f1.offset).take (P.cellsOf f1.type)) = some y1 ∧ DataW.trod enc P w 0 (fun _ => true) true n f2.type ((cs.drop f2.offset).take (P.cellsOf f2.type)) = some y2 ∧
      DataW.trod enc P w 0 (fun _ => true) true n f3.type ((cs.drop f3.offset).take (P.cellsOf f3.type)) = some y3 := by
  obtain ⟨xs, n, _, rfl, hl, hlen, hf⟩ := DataW.trod_struct ht h
  match xs, hlen with
  | [y0, y1, y2, y3], _ => exact ⟨y0, y1, y2, y3, n, by simp, hl, by simpa using hf 0 f0 rfl, by simpa using hf 1 f1 rfl, by simpa using hf 2 f2 rfl, by simpa using hf 3 f3 rfl⟩
theorem u8l_cell {fuel : Nat} {cs : List Value} {x : DataW H × List MemPlace} (h : DataW.trod enc Tryd.prog w 0 (fun _ => true) true fuel 38 cs = some x) (hs : Sized Tryd.prog 38 x.1) :
    ∃ l : List UInt8, ∃ u, cs = [u] ∧ ∀ (η : Names) (X : Nat → Nat → Prop), (∀ b i, X b i) → Rep Tryd.prog w η X (.sl .no (l.map bD)) u := by
  obtain ⟨l, _, _, u, e, h3⟩ := open_cells_trod (P := Tryd.prog) (fun n : UInt8 => Value.int .u8 (n.toNat : Int)) (fun _ => rfl) (bytes := 1) Tryd.underlying38 (by kernel_rfl) (by kernel_rfl) (by omega) (fun a => True) (fun fuel u x hx _ => by
    obtain ⟨n, e, _, hw⟩ := DataW.trod_int Tryd.underlying5 hx
    have hb := bounds_u8 hw
    injection e with e _
    refine ⟨UInt8.ofNat n.toNat, trivial, ?_⟩
    have e2 : (((UInt8.ofNat n.toNat).toNat : Nat) : Int) = n := by
      rw [UInt8.toNat_ofNat_of_lt' (by show n.toNat < 256; omega)]; omega
    rw [e2]; exact e) h hs
  exact ⟨l, u, e, h3⟩
theorem names_cell {fuel : Nat} {cs : List Value} {x : DataW H × List MemPlace} (h : DataW.trod enc Tryd.prog w 0 (fun _ => true) true fuel 39 cs = some x) (hs : Sized Tryd.prog 39 x.1) :
    ∃ l : List H32, ∃ u, cs = [u] ∧ ∀ (η : Names) (X : Nat → Nat → Prop), (∀ b i, X b i) → Rep Tryd.prog w η X (.sl .no (l.map encH)) u := by
  obtain ⟨l, _, _, u, e, h3⟩ := open_structs_trod (P := Tryd.prog) encH (size := 32) (bytes := 32) Tryd.underlying39 (by kernel_rfl) (by omega) (by kernel_rfl) (by omega) (fun m cs => cs = m.1.map bV) (fun fuel cs x hx hsx _ => hash_of hx) width_encH (fun _ => rfl) (fun s cs hq η X hX => by subst hq; exact rep_hash s η X) h hs
  exact ⟨l, u, e, h3⟩
theorem sl_one {P : Program} {η : Names} {X : Nat → Nat → Prop} {l : List D} {u : Value} (h : Rep P w η X (.sl .no l) u) : u.oneCell' = true := by
  simp only [Rep] at h
  obtain ⟨A, c, rfl, _⟩ := h
  rfl
theorem u8_of {fuel : Nat} {u : Value} {x : DataW H × List MemPlace} (h : DataW.trod enc Tryd.prog w 0 (fun _ => true) true fuel 5 [u] = some x) : ∃ n : UInt8, u = bV n := by
  obtain ⟨n, e, _, hw⟩ := DataW.trod_int Tryd.underlying5 h
  have hb := bounds_u8 hw
  injection e with e _
  refine ⟨UInt8.ofNat n.toNat, ?_⟩
  have e2 : (((UInt8.ofNat n.toNat).toNat : Nat) : Int) = n := by
    rw [UInt8.toNat_ofNat_of_lt' (by show n.toNat < 256; omega)]; omega
  show u = .int .u8 _
  rw [e2]; exact e
def IsCl (w : World) (o : DCl) (cs : List Value) : Prop := ∀ (η : Names) (X : Nat → Nat → Prop), (∀ b i, X b i) → Rep Tryd.prog w η X (encCl o) (.agg cs.toArray)
theorem open_cl_trod {fuel : Nat} {cs : List Value} {x : DataW H × List MemPlace} (h : DataW.trod enc Tryd.prog w 0 (fun _ => true) true fuel 41 cs = some x) (hs : Sized Tryd.prog 41 x.1) : ∃ o, IsCl w o cs := by
  obtain ⟨y0, y1, y2, y3, m, hx, hl, g0, g1, g2, g3⟩ := trod_struct4 Tryd.underlying41 h
  have k0 : Tryd.prog.cellsOf 5 = 1 := by kernel_rfl
  have k1 : Tryd.prog.cellsOf 37 = 32 := by kernel_rfl
  have k2 : Tryd.prog.cellsOf 38 = 1 := by kernel_rfl
  have k3 : Tryd.prog.cellsOf 39 = 1 := by kernel_rfl
  have k4 : Tryd.prog.cellsOf 41 = 35 := by kernel_rfl
  rw [k4] at hl
  rw [hx] at hs
  simp only [k0, k1, k2, k3] at g0 g1 g2 g3
  match cs, hl with
  | c :: cs, hl =>
    have hl : cs.length = 34 := by simpa using hl
    simp only [List.drop_zero, List.take_succ_cons, List.take_zero, List.drop_succ_cons] at g0 g1 g2 g3
    obtain ⟨k, rfl⟩ := u8_of g0
    obtain ⟨n, hn⟩ := hash_of g1
    obtain ⟨b, ub, eb, hb⟩ := u8l_cell g2 (sized_each Tryd.underlying41 hs (j := 2) rfl rfl)
    obtain ⟨l, ul, el, hll⟩ := names_cell g3 (sized_each Tryd.underlying41 hs (j := 3) rfl rfl)
    have e : cs = n.1.map bV ++ [ub, ul] := by
      rw [← List.take_append_drop 32 cs, hn]
      congr 1
      have h1 : (cs.drop 32).take 1 ++ (cs.drop 33).take 1 = [ub, ul] := by rw [eb, el]; rfl
      rw [← h1]
      have h2 : cs.drop 33 = (cs.drop 32).drop 1 := by rw [List.drop_drop]
      rw [h2]
      have h3 : (cs.drop 32).length = 2 := by rw [List.length_drop]; omega
      match cs.drop 32, h3 with
      | [a, b], _ => rfl
    refine ⟨⟨k, n, b, l⟩, fun η X hX => ?_⟩
    simp only [encCl, Rep]
    refine ⟨bV k :: cs, rfl, ?_, fun u hu => ?_⟩
    · simp only [clCs, RepL]
      refine ⟨_, _, rfl, by simp only [bD, Rep]; rfl, ?_⟩
      rw [e]
      refine RepL.append ?_ ?_
      · have := repL_plain (P := Tryd.prog) (w := w) (η := η) (X := X) (n.1.map bV)
        rwa [List.map_map] at this
      · simp only [RepL]
        exact ⟨_, _, rfl, hb η X hX, _, _, rfl, hll η X hX, rfl⟩
    · rcases List.mem_cons.1 hu with rfl | hu
      · rfl
      · rw [e] at hu
        rcases List.mem_append.1 hu with hu | hu
        · exact bV_one n u hu
        · simp only [List.mem_cons, List.not_mem_nil, or_false] at hu
          rcases hu with rfl | rfl
          · exact sl_one (hb η X hX)
          · exact sl_one (hll η X hX)
theorem open_cls {v : Value} {d : DataW H} {p : List MemPlace} {W : World} {base : Nat} (h : DataW.Trod enc Tryd.prog w 0 (fun _ => true) true 22 v d p) (hs : Sized Tryd.prog 22 d) (hk : Value.okWide Tryd.prog W .any base 22 v) :
    ∃ l : List DCl, l.length ≤ 140737488351232 ∧ ∀ (η : Names) (X : Nat → Nat → Prop), (∀ b i, X b i) → Rep Tryd.prog w η X (.sl .no (l.map encCl)) v := by
  obtain ⟨l, h1, h2, h3⟩ := open_structs (P := Tryd.prog) encCl (size := 35) (bytes := 88) Tryd.underlying22 (by kernel_rfl) (by omega) (by kernel_rfl) (by omega) (fun o cs => IsCl w o cs) (fun fuel cs x hx hsx _ => open_cl_trod hx hsx) width_encCl (fun _ => rfl) (fun o cs hq η X hX => hq η X hX) h hs hk
  exact ⟨l, h2, h3⟩
theorem open_u8n {v : Value} {d : DataW H} {p : List MemPlace} {W : World} {base : Nat} (hk : Value.okWide Tryd.prog W .any base 5 v) : ∃ n : UInt8, v = bV n := by
  obtain ⟨n, h1, h2, rfl⟩ := open_num (p := ([] : List MemPlace)) (d := d) Tryd.underlying5 hk
  have h1 : (0 : Int) ≤ n := h1
  have h2 : n ≤ 255 := h2
  refine ⟨UInt8.ofNat n.toNat, ?_⟩
  have e2 : (((UInt8.ofNat n.toNat).toNat : Nat) : Int) = n := by
    rw [UInt8.toNat_ofNat_of_lt' (by show n.toNat < 256; omega)]; omega
  show _ = Value.int .u8 _
  rw [e2]
end
end Go.Proofs.YtonncfminojejaaDoor

namespace Go.Proofs.YtonncfminojejaaDoor
open Go.RowKit
structure Both (gs : List DGst) (rs : List DRow) (L : List DGu) (size m : Nat) : Prop where
  r : RoomR gs rs L
  ok : GOk gs
  le : gs.length ≤ size
  rl : rs.length ≤ 12 * m
  lk : ∀ g ∈ gs, g.lk.length ≤ 12
theorem lk_sum : ∀ {gs : List DGst}, (∀ g ∈ gs, g.lk.length ≤ 12) → (gs.flatMap (·.lk)).length ≤ 12 * gs.length
  | [], _ => Nat.zero_le _
  | g :: gs, h => by
    have h1 := lk_sum (gs := gs) fun x hx => h x (List.mem_cons_of_mem _ hx)
    have h2 := h g (List.mem_cons_self ..)
    rw [List.flatMap_cons, List.length_append, List.length_cons]
    omega
theorem Both.nil (size : Nat) : Both [] [] [] size 0 := ⟨RoomR.nil, (fun _ h => by cases h), Nat.zero_le _, Nat.zero_le _, (fun _ h => by cases h)⟩
theorem Both.next {gs : List DGst} {rs : List DRow} {L : List DGu} {size m : Nat} (h : Both gs rs L size m) (o : DCl) (hb : o.b.length ≤ 100) (hl : o.l.length ≤ 12) : Both (nxtG gs size o) (nxtR rs L size o) (nxtL rs L size o) size (m + 1) := by
  have hrl := h.rl
  by_cases h0 : o.k = 0
  · have e1 : nxtG gs size o = doneG gs o.n := by rw [nxtG, if_pos h0]
    have e2 : nxtR rs L size o = doneR rs o.n := by rw [nxtR, if_pos h0]
    have e3 : nxtL rs L size o = L.filter fun g => waitsR (doneR rs o.n) g.1 := by rw [nxtL, if_pos h0]
    rw [e1, e2, e3]
    have hr := h.r.done o.n
    refine ⟨hr, fun g hg => ?_, Nat.le_trans (done_len gs o.n) h.le, ?_, fun g hg => ?_⟩
    · obtain ⟨g0, h1, rfl, _⟩ := doneG_mem.1 hg
      have h2 := h.ok g0 h1
      have h3 := List.length_filter_le (fun x => decide (x ≠ o.n)) g0.lk
      exact ⟨hr.ne _ hg, hr.asc _ hg, by show (List.filter _ _).length ≤ _; omega, h2.2.2.2⟩
    · have := List.length_filter_le (fun r : DRow => decide (r.2 ≠ o.n)) rs
      show (List.filter _ _).length ≤ _
      omega
    · obtain ⟨g0, h1, rfl, _⟩ := doneG_mem.1 hg
      have h2 := h.lk g0 h1
      have h3 := List.length_filter_le (fun x => decide (x ≠ o.n)) g0.lk
      show (List.filter _ _).length ≤ _
      omega
  · by_cases h1 : o.k = 1
    · have e1 : nxtG gs size o = dropG gs o.n := by rw [nxtG, if_neg h0, if_pos h1]
      have e2 : nxtR rs L size o = rs.filter fun x => x.1 ≠ o.n := by rw [nxtR, if_neg h0, if_pos h1]
      have e3 : nxtL rs L size o = L.filter fun g => g.1 ≠ o.n := by rw [nxtL, if_neg h0, if_pos h1]
      rw [e1, e2, e3]
      refine ⟨h.r.drop o.n, fun g hg => h.ok g (List.mem_filter.1 hg).1, Nat.le_trans (drop_len gs o.n) h.le, ?_, fun g hg => h.lk g (List.mem_filter.1 hg).1⟩
      have := List.length_filter_le (fun r : DRow => decide (r.1 ≠ o.n)) rs
      omega
    · have e1 : nxtG gs size o = addG gs size o.n o.b o.l := by rw [nxtG, if_neg h0, if_neg h1]
      have e2 : nxtR rs L size o = rowsA rs L size o.n o.l := by rw [nxtR, if_neg h0, if_neg h1]
      have e3 : nxtL rs L size o = gusA L size o.n o.b o.l := by rw [nxtL, if_neg h0, if_neg h1]
      have hnn := addN_eq h.r size h.le o.n o.l
      rw [e1, e2, e3]
      unfold addG rowsA gusA
      rw [← hnn]
      by_cases ha : addN gs size o.n o.l = 0
      · rw [if_pos ha, if_pos ha, if_pos ha]
        have hh : hasG gs o.n = false := by
          cases hc : hasG gs o.n with
          | false => rfl
          | true => rw [addN, hc, if_pos rfl] at ha; cases ha
        have hl0 : o.l ≠ [] := fun e => by rw [addN, hh, if_neg (by simp), if_pos e] at ha; cases ha
        have hsz : gs.length ≠ size := fun e => by rw [addN, hh, if_neg (by simp), if_neg hl0, if_pos e] at ha; cases ha
        have hle := h.le
        have hr := h.r.add (b := o.b) hh hl0
        refine ⟨hr, fun g hg => ?_, by rw [List.length_append]; simp; omega, by rw [List.length_append, List.length_map]; omega, fun g hg => by
          rcases List.mem_append.1 hg with h2 | h2
          · exact h.lk g h2
          · obtain rfl := List.mem_singleton.1 h2
            exact Nat.le_trans (sortH_len o.l) hl⟩
        rcases List.mem_append.1 hg with h2 | h2
        · exact h.ok g h2
        · have h3 := hr.ne g hg
          have h4 := hr.asc g hg
          obtain rfl := List.mem_singleton.1 h2
          have := sortH_len o.l
          exact ⟨h3, h4, by show (sortH o.l).length ≤ _; omega, by show o.b.length ≤ _; omega⟩
      · rw [if_neg ha, if_neg ha, if_neg ha]
        exact ⟨h.r, h.ok, h.le, by omega, h.lk⟩
def smallB (l : List DCl) : Bool := decide (l.length ≤ 40) && l.all fun o => decide (o.b.length ≤ 100) && decide (o.l.length ≤ 12)
section
set_option maxRecDepth 200000
set_option maxHeartbeats 8000000
theorem great_d (l : List DCl) : DPure Tryd.prog 6 [.sl .no (l.map encCl)] (.v (.bool (!smallB l))) := by
  refine dpure_of_dwp mixed Tryd.func6 rfl (fun _ _ => by kernel_rfl) (rs := [.tmp 2]) rfl (by kernel_rfl) trivial (fun S hS => ?_)
  by_cases h40 : l.length > 40
  · have b1 : decide ((l.length : Int) > 40) = true := decide_eq_true (by omega)
    (simp (disch := first | decide | omega | (simp only [nx]; first | done | omega)) only [go_sem, b1]; (repeat with_reducible refine aI ?_))
    refine ⟨?_, (by (repeat' first | assumption | exact St.Sub.refl _ | exact RowOk.sub (by assumption) (by assumption) | refine St.Sub.trans ?_ (RowOk.sub (by assumption) (by assumption)) | refine St.Sub.add ?_ ?_ _ | refine St.Sub.set ?_ ?_ ?_ _ | refine St.Sub.keep ?_ ?_ | refine St.WF.leave ?_ _ | refine St.WF.add ?_ _ | refine St.WF.set ?_ ?_ _ | refine St.WF.grow ?_ _ _ _ | refine St.WF.keep ?_ ?_ | (first | omega | (simp only [RowOk.lo, nx]; first | done | omega))))⟩
    have : smallB l = false := by rw [smallB, decide_eq_false (by omega)]; rfl
    rw [this]; rfl
  · have b1 : decide ((l.length : Int) > 40) = false := decide_eq_false (by omega)
    (simp (disch := first | decide | omega | (simp only [nx]; first | done | omega)) only [go_sem, b1]; (repeat with_reducible refine aI ?_))
    (refine dloop_st (fun t => List.contains [2, 3, 7, 8, 9, 10, 11, 12, 13, 14, 15, 16, 17, 18, 19, 20, 21, 22, 23, 24, 25, 26, 27, 28] t) (by kernel_rfl) ?_ (l.length) (fun i f => i ≤ l.length ∧ f 3 = .v (.int .i64 (i : Nat)) ∧ (∀ j (h' : j < l.length), j < i → l[j].b.length ≤ 100 ∧ l[j].l.length ≤ 12)) ?_ ?_; (exact (by (repeat' first | assumption | refine St.WF.leave ?_ _ | refine St.WF.add ?_ _ | refine St.WF.set ?_ ?_ _ | refine St.WF.grow ?_ _ _ _ | refine St.WF.keep ?_ ?_ | (first | omega | (simp only [RowOk.lo, nx]; first | done | omega))))); (exact ⟨(by omega), (by (first | (simp (disch := first | decide | omega | (simp only [nx]; first | done | omega)) only [go_sem]; first | done | rfl) | rfl)), (fun j _ h => absurd h (by omega))⟩); intro i g tn hn hT hg hI; obtain ⟨le, q3, hs⟩ := hI; have q0 := hg 0 rfl; simp (disch := first | decide | omega | (simp only [nx]; first | done | omega)) only [go_sem] at q0; clear hg; have hn' := hn; try simp only [add_next, set_next, grow_next, leave_next, drop_next] at hn')
    by_cases hlt : i < l.length
    · have b2 : decide ((i : Int) < (l.length : Int)) = true := decide_eq_true (by omega)
      have w1 : IntKind.i64.wrap ((i : Int) + 1) = ((i + 1 : Nat) : Int) := IntWalk.i64_in _ ⟨by omega, by omega⟩
      have bad : (100 < l[i].b.length ∨ 12 < l[i].l.length) → smallB l = false := fun hh => by
        cases hc : smallB l with
        | false => rfl
        | true =>
          rw [smallB, Bool.and_eq_true, List.all_eq_true] at hc
          have := hc.2 l[i] (List.getElem_mem hlt)
          rw [Bool.and_eq_true, decide_eq_true_eq, decide_eq_true_eq] at this
          omega
      by_cases hB : l[i].b.length > 100
      · have c1 : decide ((l[i].b.length : Int) > 100) = true := decide_eq_true (by omega)
        (simp (disch := first | decide | omega | (simp only [nx]; first | done | omega)) only [go_sem, q0, q3, b2, hlt, c1]; (repeat with_reducible refine aI ?_))
        refine ⟨?_, (by (repeat' first | assumption | exact St.Sub.refl _ | exact RowOk.sub (by assumption) (by assumption) | refine St.Sub.trans ?_ (RowOk.sub (by assumption) (by assumption)) | refine St.Sub.add ?_ ?_ _ | refine St.Sub.set ?_ ?_ ?_ _ | refine St.Sub.keep ?_ ?_ | refine St.WF.leave ?_ _ | refine St.WF.add ?_ _ | refine St.WF.set ?_ ?_ _ | refine St.WF.grow ?_ _ _ _ | refine St.WF.keep ?_ ?_ | (first | omega | (simp only [RowOk.lo, nx]; first | done | omega))))⟩
        rw [bad (.inl hB)]; rfl
      · have c1 : decide ((l[i].b.length : Int) > 100) = false := decide_eq_false (by omega)
        by_cases hC : l[i].l.length > 12
        · have c2 : decide ((l[i].l.length : Int) > 12) = true := decide_eq_true (by omega)
          (simp (disch := first | decide | omega | (simp only [nx]; first | done | omega)) only [go_sem, q0, q3, b2, hlt, c1, c2]; (repeat with_reducible refine aI ?_))
          refine ⟨?_, (by (repeat' first | assumption | exact St.Sub.refl _ | exact RowOk.sub (by assumption) (by assumption) | refine St.Sub.trans ?_ (RowOk.sub (by assumption) (by assumption)) | refine St.Sub.add ?_ ?_ _ | refine St.Sub.set ?_ ?_ ?_ _ | refine St.Sub.keep ?_ ?_ | refine St.WF.leave ?_ _ | refine St.WF.add ?_ _ | refine St.WF.set ?_ ?_ _ | refine St.WF.grow ?_ _ _ _ | refine St.WF.keep ?_ ?_ | (first | omega | (simp only [RowOk.lo, nx]; first | done | omega))))⟩
          rw [bad (.inr hC)]; rfl
        · have c2 : decide ((l[i].l.length : Int) > 12) = false := decide_eq_false (by omega)
          (simp (disch := first | decide | omega | (simp only [nx]; first | done | omega)) only [go_sem, q0, q3, b2, hlt, c1, c2, w1]; (repeat with_reducible refine aI ?_))
          (refine ⟨by omega, (by (repeat' first | assumption | exact St.Sub.refl _ | exact RowOk.sub (by assumption) (by assumption) | refine St.Sub.trans ?_ (RowOk.sub (by assumption) (by assumption)) | refine St.Sub.add ?_ ?_ _ | refine St.Sub.set ?_ ?_ ?_ _ | refine St.Sub.keep ?_ ?_ | refine St.WF.leave ?_ _ | refine St.WF.add ?_ _ | refine St.WF.set ?_ ?_ _ | refine St.WF.grow ?_ _ _ _ | refine St.WF.keep ?_ ?_ | (first | omega | (simp only [RowOk.lo, nx]; first | done | omega)))), ?_⟩; refine ⟨by omega, ?_, ?_⟩; all_goals (try (first | (simp (disch := first | decide | omega | (simp only [nx]; first | done | omega)) only [go_sem, w1]; first | done | rfl) | rfl)))
          intro j hj hji
          by_cases e : j = i
          · subst e; exact ⟨by omega, by omega⟩
          · exact hs j hj (by omega)
    · have b2 : decide ((i : Int) < (l.length : Int)) = false := decide_eq_false (by omega)
      (simp (disch := first | decide | omega | (simp only [nx]; first | done | omega)) only [go_sem, q0, q3, b2]; (repeat with_reducible refine aI ?_))
      refine ⟨?_, (by (repeat' first | assumption | exact St.Sub.refl _ | exact RowOk.sub (by assumption) (by assumption) | refine St.Sub.trans ?_ (RowOk.sub (by assumption) (by assumption)) | refine St.Sub.add ?_ ?_ _ | refine St.Sub.set ?_ ?_ ?_ _ | refine St.Sub.keep ?_ ?_ | refine St.WF.leave ?_ _ | refine St.WF.add ?_ _ | refine St.WF.set ?_ ?_ _ | refine St.WF.grow ?_ _ _ _ | refine St.WF.keep ?_ ?_ | (first | omega | (simp only [RowOk.lo, nx]; first | done | omega))))⟩
      have : smallB l = true := by
        rw [smallB, Bool.and_eq_true, List.all_eq_true]
        refine ⟨decide_eq_true (by omega), fun x hx => ?_⟩
        obtain ⟨j, hj, rfl⟩ := List.getElem_of_mem hx
        have := hs j hj (by omega)
        rw [Bool.and_eq_true, decide_eq_true_eq, decide_eq_true_eq]
        exact this
      rw [this]; rfl
end
end Go.Proofs.YtonncfminojejaaDoor

namespace Go.Proofs.YtonncfminojejaaDoor
open Go.RowKit
theorem cvW_u8i (n : Int) : pureRun Tryd.prog (convert 5 3 (.int .u8 n)) = some (.int .i64 (IntKind.i64.wrap n)) := by kernel_rfl
theorem bin_remW {P : Program} {t : TypeId} {x y : Operand} (k : IntKind) (a b : Int) (hb : b ≠ 0) : dbin P .rem t x y (.v (.int k a)) (.v (.int k b)) = some (True, .v (.int k (a.tmod b))) := by
  simp [dbin, eqGuard, binOp, Op.intDiv, pureRun_bind, pureRun_pure, hb]

section
variable {P : Program} {f : Fm} {md : Region.Mode} {Zs : St → Prop}
end
section
set_option maxRecDepth 200000
set_option maxHeartbeats 8000000
end
end Go.Proofs.YtonncfminojejaaDoor

namespace Go.Proofs.YtonncfminojejaaDoor
open Go.RowKit
structure Ok2 (gs : List DGst) : Prop where
  ok : GOk gs
  le : gs.length ≤ 32
  lk : ∀ g ∈ gs, g.lk.length ≤ 12
theorem Ok2.done {gs : List DGst} (h : Ok2 gs) (x : H32) : Ok2 (doneG gs x) := by
  refine ⟨fun g hg => ?_, Nat.le_trans (done_len gs x) h.le, fun g hg => ?_⟩
  · obtain ⟨g0, h1, rfl, hne⟩ := doneG_mem.1 hg
    have h2 := h.ok g0 h1
    have h3 := List.length_filter_le (fun y => decide (y ≠ x)) g0.lk
    exact ⟨hne, ascH_filter h2.2.1 _, by show (List.filter _ _).length ≤ _; omega, h2.2.2.2⟩
  · obtain ⟨g0, h1, rfl, _⟩ := doneG_mem.1 hg
    have h2 := h.lk g0 h1
    have h3 := List.length_filter_le (fun y => decide (y ≠ x)) g0.lk
    show (List.filter _ _).length ≤ _
    omega
theorem doAll_succ {gs : List DGst} {l : List H32} {i : Nat} (h : i < l.length) : doAll gs (l.take (i + 1)) = doneG (doAll gs (l.take i)) l[i] := by
  rw [doAll, List.take_succ_eq_append_getElem h, List.foldl_append]; rfl
theorem Ok2.all {gs : List DGst} (h : Ok2 gs) : ∀ l : List H32, Ok2 (doAll gs l)
  | [] => h
  | x :: l => (h.done x).all l
def Near (gs : List DGst) (k : Nat) : Prop := (missG gs = [] ∧ k ≤ 34) ∨ gs.length + k ≤ 32
theorem Near.next {gs : List DGst} {k : Nat} (h : Near gs k) (hm : missG gs ≠ []) : Near (doAll gs (missG gs)) (k + 1) := by
  rcases h with h | h
  · exact absurd h.1 hm
  · have h1 := doAll_len (missG gs) gs
    by_cases he : (doAll gs (missG gs)).length = gs.length
    · exact .inl ⟨miss_nil he, by omega⟩
    · exact .inr (by omega)
theorem miss_le {gs : List DGst} (h : Ok2 gs) : (missG gs).length ≤ 1000 := by
  have h1 := lk_sum h.lk
  have h2 := h.le
  exact Nat.le_trans (List.length_filter_le _ _) (Nat.le_trans (sortH_len _) (by omega))
section
set_option maxRecDepth 200000
set_option maxHeartbeats 8000000
theorem keeps_at (sz : UInt8) (l : List DCl) : DAt Tryd.prog 3 [.v (.int .u8 (sz.toNat : Int)), .sl .no (l.map encCl)] St.nil (.v (.bool true)) := by
  refine dat_of_dwpL mixed Tryd.func3 rfl (fun _ _ => by kernel_rfl) (rs := [.tmp 4]) rfl (by kernel_rfl) (by trivial) (fun hS => ?_)
  (simp (disch := first | decide | omega | (simp only [nx]; first | done | omega)) only [go_sem]; (repeat with_reducible refine aI ?_))
  refine DCalls.of_pure (great_d l) ?_
  cases hsm : smallB l with
  | false =>
    have nf : (!false) = true := rfl
    (simp (disch := first | decide | omega | (simp only [nx]; first | done | omega)) only [go_sem, nf]; (repeat with_reducible refine aI ?_))
    refine DCalls.of_pure awake_d ?_
    (simp (disch := first | decide | omega | (simp only [nx]; first | done | omega)) only [go_sem]; (repeat with_reducible refine aI ?_))
    refine ⟨?_, (by (repeat' first | assumption | exact St.Sub.refl _ | exact RowOk.sub (by assumption) (by assumption) | refine St.Sub.trans ?_ (RowOk.sub (by assumption) (by assumption)) | refine St.Sub.add ?_ ?_ _ | refine St.Sub.set ?_ ?_ ?_ _ | refine St.Sub.keep ?_ ?_ | refine St.WF.leave ?_ _ | refine St.WF.add ?_ _ | refine St.WF.set ?_ ?_ _ | refine St.WF.grow ?_ _ _ _ | refine St.WF.keep ?_ ?_ | (first | omega | (simp only [RowOk.lo, nx]; first | done | omega))))⟩
    rfl
  | true =>
    have nt : (!true) = false := rfl
    have hz : sz.toNat < 256 := sz.toNat_lt
    have rm : ∀ {x y : Operand}, dbin Tryd.prog .rem 5 x y (.v (.int .u8 (sz.toNat : Int))) (.v (.int .u8 33)) = some (True, .v (.int .u8 ((sz.toNat % 33 : Nat) : Int))) := by intro x y; rw [bin_remW _ _ _ (by omega)]; rfl
    have wz : IntKind.i64.wrap ((sz.toNat % 33 : Nat) : Int) = ((sz.toNat % 33 : Nat) : Int) := IntWalk.i64_in _ ⟨by omega, by omega⟩
    (simp (disch := first | decide | omega | (simp only [nx]; first | done | omega)) only [go_sem, nt, rm, wz, cvW_u8i]; (repeat with_reducible refine aI ?_))
    generalize hsize : sz.toNat % 33 = size at *
    have hs33 : size ≤ 32 := by omega
    refine DCalls.mono (DCalls.wf (new_some size hs33)) ?_
    rintro d T ⟨⟨rfl, hrm, hsub⟩, hT⟩
    (simp (disch := first | decide | omega | (simp only [nx]; first | done | omega)) only [go_sem, bnil_ne, rm, wz, cvW_u8i]; (repeat with_reducible refine aI ?_))
    have hkm : St.nil.next < T.next := by
      obtain ⟨_, hq, _⟩ := hrm.ex
      exact hT.lt hq
    have hl40 : l.length ≤ 40 ∧ ∀ i (h : i < l.length), l[i].b.length ≤ 100 ∧ l[i].l.length ≤ 12 := by
      rw [smallB, Bool.and_eq_true, List.all_eq_true] at hsm
      refine ⟨of_decide_eq_true hsm.1, fun i h => ?_⟩
      have := hsm.2 l[i] (List.getElem_mem h)
      rwa [Bool.and_eq_true, decide_eq_true_eq, decide_eq_true_eq] at this
    have hsubT : T.Sub (T.add (.box 34 [.v (.int .i64 (size : Int)), .sl .full [], .sl .full []])) := (St.Sub.refl T).add hT _
    refine dloop_up (fun t => List.contains [4, 8, 9, 10, 35, 36, 37, 38, 39, 40, 41, 42, 43, 44, 45, 46, 47, 48, 49, 50, 51, 52, 53, 54, 55, 56, 57, 58, 59, 60, 61, 62, 63, 64, 65, 66, 67] t) (by kernel_rfl) (by exact hT.add _) l.length (fun i q T' => i ≤ l.length ∧ q 8 = .v (.int .i64 ((i : Nat) : Int)) ∧ (∃ gs rs L, RoomAt St.nil.next gs size T' ∧ RefAt T.next rs L size T' ∧ Both gs rs L size i))
      ⟨by omega, by (first | (simp (disch := first | decide | omega | (simp only [nx]; first | done | omega)) only [go_sem]; first | done | rfl) | rfl), ⟨[], [], [], hrm.mono hsubT.ob, ⟨.full, .full, by (first | (simp (disch := first | decide | omega | (simp only [nx]; first | done | omega)) only [go_sem]; first | done | rfl) | rfl), .inl ⟨rfl, rfl⟩, .inl ⟨rfl, rfl⟩⟩, Both.nil size⟩⟩ ?_
    rintro i q V hV hg ⟨le, q8, ⟨gs, rs, L, vg, vm, vb⟩⟩
    (have q0 := hg 0 rfl; have q1 := hg 1 rfl; have q5 := hg 5 rfl; have q7 := hg 7 rfl; simp (disch := first | decide | omega | (simp only [nx]; first | done | omega)) only [go_sem] at q0 q1 q5 q7; clear hg)
    by_cases hlt : i < l.length
    · have b1 : decide ((i : Int) < (l.length : Int)) = true := decide_eq_true (by omega)
      have w1 : IntKind.i64.wrap ((i : Int) + 1) = ((i + 1 : Nat) : Int) := IntWalk.i64_in _ ⟨by omega, by omega⟩
      obtain ⟨hb, hl⟩ := hl40.2 i hlt
      have hvr := vb.rl
      (simp (disch := first | decide | omega | (simp only [nx]; first | done | omega)) only [go_sem, q0, q1, q5, q7, q8, b1, hlt]; (repeat with_reducible refine aI ?_))
      refine DCalls.mono (DCalls.wf (does_at (by omega) vg vm vb.r vb.ok vb.le hs33 (by omega) l[i] hb hl)) ?_
      rintro d T1 ⟨⟨rfl, tg, tm, tn, tb⟩, hT1⟩
      have hB := vb.next l[i] hb hl
      generalize nxtG gs size l[i] = G2 at *
      generalize nxtR rs L size l[i] = R2 at *
      generalize nxtL rs L size l[i] = L2 at *
      have hgl := hB.le
      have hlk := lk_sum hB.lk
      have c1 : decide ((G2.length : Int) > (size : Int)) = false := decide_eq_false (by omega)
      (simp (disch := first | decide | omega | (simp only [nx]; first | done | omega)) only [go_sem, q0, q5, rm, wz, cvW_u8i]; (repeat with_reducible refine aI ?_))
      refine go_at (len_at tg) ?_
      (simp (disch := first | decide | omega | (simp only [nx]; first | done | omega)) only [go_sem, q0, q5, rm, wz, cvW_u8i, c1]; (repeat with_reducible refine aI ?_))
      refine go_at (missing_at tg (by omega) (by omega)) ?_
      (simp (disch := first | decide | omega | (simp only [nx]; first | done | omega)) only [go_sem, q0, q5, q8]; (repeat with_reducible refine aI ?_))
      have hml : (missG G2).length ≤ 1000 := miss_le ⟨hB.ok, by omega, hB.lk⟩
      (refine dloop_st (fun t => List.contains [4, 10, 56, 57, 58, 59, 60, 61, 62, 63, 64, 65, 66, 67] t) (by kernel_rfl) ?_ ((missG G2).length) (fun ix f => ix ≤ (missG G2).length ∧ f 10 = .v (.int .i64 (ix : Nat))) ?_ ?_; (exact (by (repeat' first | assumption | refine St.WF.leave ?_ _ | refine St.WF.add ?_ _ | refine St.WF.set ?_ ?_ _ | refine St.WF.grow ?_ _ _ _ | refine St.WF.keep ?_ ?_ | (first | omega | (simp only [RowOk.lo, nx]; first | done | omega))))); (exact ⟨(by omega), (by (first | (simp (disch := first | decide | omega | (simp only [nx]; first | done | omega)) only [go_sem, q5, q8]; first | done | rfl) | rfl))⟩); intro ix gx tnx hnx hTx hgx hIx; obtain ⟨lex, q10x⟩ := hIx; have q5x := hgx 5 rfl; have q8x := hgx 8 rfl; have q9x := hgx 9 rfl; simp (disch := first | decide | omega | (simp only [nx]; first | done | omega)) only [go_sem, q5, q8] at q5x q8x q9x; clear hgx; have hnx' := hnx; try simp only [add_next, set_next, grow_next, leave_next, drop_next] at hnx')
      by_cases hk : ix < (missG G2).length
      · have bx : decide ((ix : Int) < ((missG G2).length : Int)) = true := decide_eq_true (by omega)
        have wx : IntKind.i64.wrap ((ix : Int) + 1) = ((ix + 1 : Nat) : Int) := IntWalk.i64_in _ ⟨by omega, by omega⟩
        have hnh : hasG G2 (missG G2)[ix] = false := miss_not (List.getElem_mem hk)
        have lh := (missG G2)[ix].2
        (simp (disch := first | decide | omega | (simp only [nx]; first | done | omega)) only [go_sem, q5x, q9x, q10x, bx, hk, lh]; (repeat with_reducible refine aI ?_))
        refine go_at (has_at (T := ⟨tnx, T1.ob⟩) (tg.mono fun _ _ h => h) (by omega) (missG G2)[ix]) ?_
        rw [hnh]
        (simp (disch := first | decide | omega | (simp only [nx]; first | done | omega)) only [go_sem, q5x, q9x, q10x, bx, wx]; (repeat with_reducible refine aI ?_))
        (refine ⟨by omega, (by (repeat' first | assumption | exact St.Sub.refl _ | exact RowOk.sub (by assumption) (by assumption) | refine St.Sub.trans ?_ (RowOk.sub (by assumption) (by assumption)) | refine St.Sub.add ?_ ?_ _ | refine St.Sub.set ?_ ?_ ?_ _ | refine St.Sub.keep ?_ ?_ | refine St.WF.leave ?_ _ | refine St.WF.add ?_ _ | refine St.WF.set ?_ ?_ _ | refine St.WF.grow ?_ _ _ _ | refine St.WF.keep ?_ ?_ | (first | omega | (simp only [RowOk.lo, nx]; first | done | omega)))), ?_⟩; refine ⟨by omega, ?_⟩; all_goals (try (first | (simp (disch := first | decide | omega | (simp only [nx]; first | done | omega)) only [go_sem, wx]; first | done | rfl) | rfl)))
      · have bx : decide ((ix : Int) < ((missG G2).length : Int)) = false := decide_eq_false (by omega)
        (simp (disch := first | decide | omega | (simp only [nx]; first | done | omega)) only [go_sem, q5x, q8x, q9x, q10x, bx, w1]; (repeat with_reducible refine aI ?_))
        exact ⟨by omega, T1.ob, fun _ _ h => h, by omega, by (first | (simp (disch := first | decide | omega | (simp only [nx]; first | done | omega)) only [go_sem, w1]; first | done | rfl) | rfl), ⟨G2, R2, L2, tg.mono fun _ _ h => h, ⟨tm.ex⟩, hB⟩⟩
    · have b1 : decide ((i : Int) < (l.length : Int)) = false := decide_eq_false (by omega)
      have ho : Ok2 gs := ⟨vb.ok, by have := vb.le; omega, vb.lk⟩
      (simp (disch := first | decide | omega | (simp only [nx]; first | done | omega)) only [go_sem, q0, q1, q5, q7, q8, b1]; (repeat with_reducible refine aI ?_))
      refine dloop_up (fun t => List.contains [4, 11, 12, 13, 68, 69, 70, 71, 72, 73, 74, 75, 76, 77, 78, 79, 80, 81, 82, 83, 84, 85, 86, 87, 88, 89] t) (by kernel_rfl) (by exact hV) 60 (fun k q T' => k ≤ 60 ∧ q 11 = .v (.int .i64 ((k : Nat) : Int)) ∧ (∃ gs, RoomAt St.nil.next gs size T' ∧ Ok2 gs ∧ Near gs k))
        ⟨by omega, by (first | (simp (disch := first | decide | omega | (simp only [nx]; first | done | omega)) only [go_sem]; first | done | rfl) | rfl), ⟨gs, vg, ho, .inr (by have := vb.le; omega)⟩⟩ ?_
      rintro k y Y hY hgy ⟨ley, q11y, ⟨gy, yg, yo, yn⟩⟩
      (have q5y := hgy 5 rfl; simp (disch := first | decide | omega | (simp only [nx]; first | done | omega)) only [go_sem, q5] at q5y; clear hgy)
      by_cases hk : k < 60
      · have by1 : decide ((k : Int) < 60) = true := decide_eq_true (by omega)
        have wy : IntKind.i64.wrap ((k : Int) + 1) = ((k + 1 : Nat) : Int) := IntWalk.i64_in _ ⟨by omega, by omega⟩
        have hyl := yo.le
        have hylk := lk_sum yo.lk
        have hml := miss_le yo
        (simp (disch := first | decide | omega | (simp only [nx]; first | done | omega)) only [go_sem, q5y, q11y, by1]; (repeat with_reducible refine aI ?_))
        refine go_at (missing_at yg (by omega) (by omega)) ?_
        by_cases hm0 : missG gy = []
        · have bm : (((missG gy).length : Int) == 0) = true := by rw [hm0]; rfl
          (simp (disch := first | decide | omega | (simp only [nx]; first | done | omega)) only [go_sem, q5y, q11y, bm]; (repeat with_reducible refine aI ?_))
          refine DCalls.of_pure awake_d ?_
          (simp (disch := first | decide | omega | (simp only [nx]; first | done | omega)) only [go_sem]; (repeat with_reducible refine aI ?_))
          exact ⟨rfl, Nat.zero_le _, fun _ _ h => by cases h⟩
        · have bm : (((missG gy).length : Int) == 0) = false := by
            cases hc : missG gy with
            | nil => exact absurd hc hm0
            | cons a t => exact beq_eq_false_iff_ne.2 (by rw [List.length_cons]; omega)
          (simp (disch := first | decide | omega | (simp only [nx]; first | done | omega)) only [go_sem, q5y, q11y, bm]; (repeat with_reducible refine aI ?_))
          refine dloop_up (fun t => List.contains [13, 78, 79, 80, 81, 82, 83, 84, 85, 86, 87, 88, 89] t) (by kernel_rfl) (by exact hY) (missG gy).length (fun j z Z' => j ≤ (missG gy).length ∧ z 13 = .v (.int .i64 ((j : Nat) : Int)) ∧ RoomAt St.nil.next (doAll gy ((missG gy).take j)) size Z')
            ⟨by omega, by (first | (simp (disch := first | decide | omega | (simp only [nx]; first | done | omega)) only [go_sem]; first | done | rfl) | rfl), yg⟩ ?_
          rintro j z Z hZ hgz ⟨lez, q13z, zg⟩
          (have q4z := hgz 4 rfl; have q5z := hgz 5 rfl; have q11z := hgz 11 rfl; have q12z := hgz 12 rfl; simp (disch := first | decide | omega | (simp only [nx]; first | done | omega)) only [go_sem, q5y, q11y] at q4z q5z q11z q12z; clear hgz)
          have zo := yo.all ((missG gy).take j)
          by_cases hj : j < (missG gy).length
          · have bz1 : decide ((j : Int) < ((missG gy).length : Int)) = true := decide_eq_true (by omega)
            have wz1 : IntKind.i64.wrap ((j : Int) + 1) = ((j + 1 : Nat) : Int) := IntWalk.i64_in _ ⟨by omega, by omega⟩
            have lh := (missG gy)[j].2
            (simp (disch := first | decide | omega | (simp only [nx]; first | done | omega)) only [go_sem, q5z, q12z, q13z, bz1, hj, lh]; (repeat with_reducible refine aI ?_))
            refine DCalls.mono (DCalls.wf (done_at zg (by have := zo.le; omega) zo.ok (missG gy)[j])) ?_
            rintro d Z1 ⟨⟨rfl, zg1, zf⟩, hZ1⟩
            (simp (disch := first | decide | omega | (simp only [nx]; first | done | omega)) only [go_sem, q13z, wz1]; (repeat with_reducible refine aI ?_))
            exact ⟨by omega, Z1.ob, fun _ _ h => h, by omega, by (first | (simp (disch := first | decide | omega | (simp only [nx]; first | done | omega)) only [go_sem, wz1]; first | done | rfl) | rfl), by rw [doAll_succ hj]; exact zg1⟩
          · have bz1 : decide ((j : Int) < ((missG gy).length : Int)) = false := decide_eq_false (by omega)
            (simp (disch := first | decide | omega | (simp only [nx]; first | done | omega)) only [go_sem, q5z, q11z, q12z, q13z, bz1, wy]; (repeat with_reducible refine aI ?_))
            have ej : (missG gy).take j = missG gy := List.take_of_length_le (by omega)
            rw [ej] at zg zo
            exact ⟨by omega, Z.ob, fun _ _ h => h, by omega, by (first | (simp (disch := first | decide | omega | (simp only [nx]; first | done | omega)) only [go_sem, wy]; first | done | rfl) | rfl), ⟨_, zg, zo, yn.next hm0⟩⟩
      · exfalso
        rcases yn with h | h <;> omega
theorem keeps_d (sz : UInt8) (l : List DCl) : DPure Tryd.prog 3 [.v (.int .u8 (sz.toNat : Int)), .sl .no (l.map encCl)] (.v (.bool true)) := dpure_nil (by
  simp only [allL, and_true]
  refine ⟨trivial, ⟨trivial, allL_iff.2 fun d hd => ?_⟩⟩
  obtain ⟨o, _, rfl⟩ := List.mem_map.1 hd
  simp only [encCl, clCs, D.all, allL]
  refine ⟨by simp [bD, D.all], allL_iff.2 fun d hd => ?_⟩
  rcases List.mem_append.1 hd with h | h
  · obtain ⟨b, _, rfl⟩ := List.mem_map.1 h; simp [bD, D.all]
  · rcases List.mem_cons.1 h with rfl | h
    · exact closed_bB o.b
    · obtain rfl := List.mem_singleton.1 h
      exact closed_Hs o.l) (keeps_at sz l)
end
end Go.Proofs.YtonncfminojejaaDoor

namespace Go.Proofs.YtonncfminojejaaDoor
open Go.ChangeShapes Go.WideShapes Go.ChangeAt Go.RowKit
set_option maxRecDepth 100000 in
theorem waitingKeeps_lifted (os : Os) (started : os.Started) (H : Type) (enc : TypeId × Value → H) :
    ReturnsInHanded {} Tryd.checked os 3 .any (fun w args => (Rows.waitingKeepsSpec.pre enc Tryd.prog Tryd.f3 [] false w args ∧ laidMetH Tryd.prog doorLaid w) ∧ sizedMet enc Tryd.prog Tryd.f3 (OpenSpec.ofChange Rows.waitingKeepsSpec) false w args)
      (Rows.waitingKeepsSpec.post enc Tryd.prog Tryd.f3 false true false false) := by
  refine returnsInHanded_of_change_and (C := Tryd.checked) (X := fun w _ => laidMetH Tryd.prog doorLaid w) (fun _ _ _ hh h => h.of_heap hh) door_own started (by kernel_rfl) Tryd.func3
    (ChangeSpec.witness_at (enc := enc) (C := Tryd.checked) (os := os) (X := fun w _ => laidMetH Tryd.prog doorLaid w) false (laidWorld os) #[.int .u8 0, .slice none 0 0] 8 rfl (by kernel_rfl) (by kernel_rfl) (by kernel_rfl) (by kernel_rfl) (by kernel_rfl) (laidWorld_met os _)) ?_
  intro W base args ds gs before hval0 hW hcnd hsz0 hL _
  have hG := glob_of_laid hL
  have hval : ∀ (j : Nat) t v, Tryd.f3.params[j]? = some t → args[j]? = some v → Value.okWide Tryd.prog W .any base t v := hval0
  have hsz : (DataW.weightsEach Tryd.prog (Tryd.f3.params.toList ++ Rows.waitingKeepsSpec.plain.varTypes Tryd.prog) (ds ++ gs)).all (· ≤ reachBytes) = true := hsz0
  have hW' := hW
  obtain ⟨p, q, hA0, hV, rfl, hfz, hnd⟩ := hW
  have hA : DataW.TrodAll enc Tryd.prog W 0 (fun _ => true) true Tryd.f3.params.toList args.toList ds p := hA0
  obtain ⟨rfl, rfl⟩ := trodVars_none hV
  rw [Tryd.params3] at hA hval hsz
  have hA1 := hA
  obtain ⟨v0, vs0, d0, ds0, p0, q0, hargs, rfl, rfl, h0, r0⟩ := trodAll_cons hA
  obtain ⟨v1, vs1, d1, ds1, p1, q1, rfl, rfl, rfl, h1, r1⟩ := trodAll_cons r0
  obtain ⟨rfl, rfl, rfl⟩ := trodAll_nil r1
  obtain rfl : args = #[v0, v1] := by cases args; simp_all
  have z0 : Sized Tryd.prog 5 d0 := sized_of_each (j := 0) hsz rfl rfl
  have k0 : Value.okWide Tryd.prog W .any base 5 v0 := hval 0 _ _ rfl rfl
  have z1 : Sized Tryd.prog 22 d1 := sized_of_each (j := 1) hsz rfl rfl
  have k1 : Value.okWide Tryd.prog W .any base 22 v1 := hval 1 _ _ rfl rfl
  clear hA0 hval0 hsz hsz0 hval
  have key : Calls Tryd.prog 3 #[v0, v1] W (Gives (.bool true) W) := by
    obtain ⟨n, rfl⟩ := open_u8n (d := d0) (p := ([] : List MemPlace)) k0
    obtain ⟨l, _, hl⟩ := open_cls h1 z1 k1
    exact door_gives (vs := [bV n, v1]) (keeps_d n l) (by simp only [RepL]; exact ⟨_, _, rfl, (by simp only [bD, Rep]; rfl), _, _, rfl, hl _ _ fix_nilD, rfl⟩) (by intro _ _; kernel_rfl) hG
  refine key.mono fun e W' ⟨he, bel⟩ => ?_
  subst he
  exact ⟨_, rfl, _, _, _, [], _, [], hW', trodAll_mk1 (shut_bool Tryd.underlying4 _), trodAll_below door_laidOut bel (by kernel_rfl) hA1, rfl, bel.frame _, fun h => by cases h⟩

theorem waitingKeeps_row : Rows.WaitingKeepsSaid :=
  OpenClaim.holds_of_wide 3 Tryd.f3 rfl rfl rfl rfl rfl rfl rfl ⟨rfl, rfl, rfl, rfl, rfl⟩ rfl rfl rfl rfl rfl (by kernel_rfl) Tryd.func3 (by kernel_rfl)
    (of_decide_eq_true (by kernel_rfl)) (by unfold Func.isWrapper; first | (rw [if_pos (by decide +kernel)]; kernel_rfl) | (rw [if_neg (by decide +kernel)]; exact ⟨rfl, rfl⟩))
    (fun os started H enc _ => waitingKeeps_lifted os started H enc)
theorem waitingKeeps_holds : Rows.WaitingKeepsCardSaid :=
  Claim7.holds_tied_plain_at .later [] [.handle] true Rows.waitingKeepsCard.stood.harness true
    waitingKeeps_row (fun _ h => by cases h) (by kernel_rfl) (fun _ h => by cases h) waitingKeeps_row_tie rfl ⟨rfl, rfl⟩ (by kernel_rfl) rfl
    (fun f fn hf hfn => by
      obtain rfl : f = 3 := Option.some.inj ((show Tryd.prog.funcNamed "dioptre/dioptrelaw26.WaitingKeeps" = some 3 by kernel_rfl).symm.trans hf) |>.symm
      obtain rfl : fn = Tryd.f3 := (Option.some.inj (Tryd.func3.symm.trans hfn)).symm
      exact ⟨by kernel_rfl, fun j t ht => by
        rw [Tryd.params3] at ht
        have ht' := List.mem_of_getElem? (Array.getElem?_toList ▸ ht)
        simp only [List.mem_cons, List.not_mem_nil, or_false] at ht'
        rcases ht' with rfl | rfl <;> exact (show Tryd.prog.wantsStandIn _ = false by kernel_rfl)⟩)
    (by kernel_rfl)
#print axioms waitingKeeps_holds
end Go.Proofs.YtonncfminojejaaDoor
