/- LineMerges answers true for any two lists of marks, and leaves its arguments as they were. Conditions: none but the statement's own. -/
import Derived.Test.YtgadflonnnkjcaaM4
import Derived.Test.YtgadflonnnkjcaaRows
set_option linter.unusedVariables false
set_option linter.unusedSimpArgs false
namespace Go.Proofs.Ytgadflonnnkjcaa
open Go.RowKit
theorem head_drop {a : List DMk} (h : 0 < a.length) : a = a[0] :: a.drop 1 := by rw [← List.drop_eq_getElem_cons h, List.drop_zero]
theorem drop1_map (a : List DMk) : (a.map encM).drop 1 = (a.drop 1).map encM := List.map_drop.symm
theorem takeA_map (a : List DMk) : (a.map encM).take a.length = a.map encM := List.take_of_length_le (by rw [List.length_map]; omega)
structure GrM (S T : St) (out : List DMk) (d : D) : Prop where
  own : OwnD Try.prog T 26 (out.map encM) d
  lo : ∀ k o n c, d = .win k o n c → S.next ≤ k
  sub : S.Sub T
section
set_option maxRecDepth 200000
set_option maxHeartbeats 4000000
theorem grM_app {S T : St} {out : List DMk} {d : D} {m : DMk} {o2 : Own} {K : D → St → Prop} (hS : S.WF) (h : GrM S T out d) (hl : out.length ≤ 2000000)
    (k : ∀ (c' : Nat) (zs' : List D), GrM S ((T.left d).add (ownOb 26 ((out ++ [m]).map encM) zs' c')) (out ++ [m]) (.win T.next 0 (out.length + 1) c') → (T.left d).next = T.next → K (.win T.next 0 (out.length + 1) c') ((T.left d).add (ownOb 26 ((out ++ [m]).map encM) zs' c'))) :
    dapp Try.prog T 22 22 22 d (.sl o2 [encM m]) K := by
  refine dapp_ownD elMk (by rw [elMk]; rfl) zeMk zoMk h.own (by rw [szMk]; exact wMk out) (es2 := [encM m]) (by rw [szMk]; exact fun d hd => by obtain rfl := List.mem_singleton.1 hd; exact width_encM m) (by rw [List.length_map]; simp; omega) (by rw [List.length_map, byMk]; simp; omega) fun c' zs' h1 => ?_
  have e : out.map encM ++ [encM m] = (out ++ [m]).map encM := by simp
  rw [e] at h1 ⊢
  have hsub := OwnD.sub hS h.sub h.own h.lo
  rw [List.length_map]
  refine k c' zs' ⟨.inr ⟨T.next, c', zs', by rw [List.length_map, List.length_append]; rfl, ?_, h1, ?_⟩, fun k o n c hk => ?_, ?_⟩ (left_next T d)
  · show (if T.next = (T.left d).next then _ else _) = _
    rw [left_next, if_pos rfl]
  · show T.next < (T.left d).next + 1
    rw [left_next]; omega
  · injection hk with hk
    rw [← hk]
    exact h.sub.next
  · exact hsub.add hS _
theorem merge_w {S : St} (own own2 : Own) (a b : List DMk) (ha : a.length ≤ 1000000) (hb : b.length ≤ 1000000) :
    DCalls Try.prog 17 [.sl own (a.map encM), .sl own2 (b.map encM)] S fun d T => ∃ k c zs, d = .win k 0 (mergeM a b).length c ∧ S.next ≤ k ∧ OwnM T k c zs (mergeM a b) ∧ S.Sub T := by
  refine DCalls.thaw ?_
  refine dcalls_inline mixed Try.func17 rfl (fun _ _ => by kernel_rfl) (rs := [.tmp 4]) rfl (by kernel_rfl) (fun hS => ?_)
  (simp (disch := first | decide | omega | (simp only [nx]; first | done | omega)) only [go_sem]; (repeat with_reducible refine aI ?_))
  refine dloop_up (fun t => List.contains [0, 1, 5, 6, 7, 8, 9, 10, 11, 12, 13, 14, 15, 16, 17, 18, 19, 20, 21, 22, 23, 24, 25, 26, 27, 28, 29, 30, 31, 32, 33, 34, 35, 36, 37, 38, 39, 40, 41, 42, 43, 44, 45, 46, 47, 48, 49, 50, 51, 52, 53, 54, 55, 56, 57, 58, 59, 60, 61] t) (by kernel_rfl) (by exact (by (repeat' first | assumption | refine St.WF.leave ?_ _ | refine St.WF.add ?_ _ | refine St.WF.set ?_ ?_ _ | refine St.WF.grow ?_ _ _ _ | refine St.WF.keep ?_ ?_ | (first | omega | (simp only [RowOk.lo, nx]; first | done | omega))))) (a.length + b.length) (fun t g T => ∃ a' b' out o0 o1, t + a'.length + b'.length ≤ a.length + b.length ∧ mergeM a b = out ++ mergeM a' b' ∧ g 0 = .sl o0 (a'.map encM) ∧ g 1 = .sl o1 (b'.map encM) ∧ GrM S T out (g 5)) ⟨a, b, [], own, own2, by omega, rfl, by (first | (simp (disch := first | decide | omega | (simp only [nx]; first | done | omega)) only [go_sem]; first | done | rfl) | rfl), by (first | (simp (disch := first | decide | omega | (simp only [nx]; first | done | omega)) only [go_sem]; first | done | rfl) | rfl), .inl ⟨rfl, by (first | (simp (disch := first | decide | omega | (simp only [nx]; first | done | omega)) only [go_sem]; first | done | rfl) | rfl)⟩, (fun k o n c e => by simp (disch := first | decide | omega | (simp only [nx]; first | done | omega)) only [go_sem] at e; cases e), St.Sub.refl S⟩ ?_
  rintro t g T hT hg ⟨a', b', out, o0, o1, hlen, hm, q0, q1, hG⟩
  (have q4 := hg 4 rfl; simp (disch := first | decide | omega | (simp only [nx]; first | done | omega)) only [go_sem] at q4; clear hg)
  have hml := mergeM_len a b
  have hol : out.length ≤ 2000000 := by rw [hm, List.length_append] at hml; omega
  have l1 := drop1_map a'
  have l2 := drop1_map b'
  have l3 := takeA_map a'
  have l4 := takeA_map b'
  have l5 : (∀ d, d ∈ List.map encM a' → d.cells.length = 33) = True := eq_true (wMk a')
  have l6 : (∀ d, d ∈ List.map encM b' → d.cells.length = 33) = True := eq_true (wMk b')
  by_cases ha0 : 0 < a'.length
  · have b1 : decide ((0 : Int) < (a'.length : Int)) = true := decide_eq_true (by omega)
    have ea := head_drop ha0
    have i1 : ((a'.map encM).getD 0 undefD) = encM a'[0] := by rw [List.getD_eq_getElem?_getD, List.getElem?_map, List.getElem?_eq_getElem ha0]; rfl
    have p1 : ((1 : Int) ≤ (a'.length : Int)) = True := eq_true (by omega)
    have step : ∀ (T2 : St) (o1' : Own) (b2 : List DMk) (g2 : Fm), b2.length ≤ b'.length → mergeM a' b' = a'[0] :: mergeM (a'.drop 1) b2 → g2 0 = .sl .no ((a'.drop 1).map encM) → g2 1 = .sl o1' (b2.map encM) → GrM S T2 (out ++ [a'[0]]) (g2 5) → dnextU (fun t g T => ∃ a' b' out o0 o1, t + a'.length + b'.length ≤ a.length + b.length ∧ mergeM a b = out ++ mergeM a' b' ∧ g 0 = .sl o0 (a'.map encM) ∧ g 1 = .sl o1 (b'.map encM) ∧ GrM S T out (g 5)) (a.length + b.length) t g2 T2 := fun T2 o1' b2 g2 h1 h2 h3 h4 h5 =>
      ⟨by omega, T2.ob, fun _ _ h => h, a'.drop 1, b2, out ++ [a'[0]], .no, o1', by rw [List.length_drop]; omega, by rw [hm, h2, List.append_assoc]; rfl, h3, h4, h5⟩
    by_cases hb0 : 0 < b'.length
    · have b2 : decide ((0 : Int) < (b'.length : Int)) = true := decide_eq_true (by omega)
      have b3 : ((b'.length : Int) == 0) = false := by rw [beq_eq_false_iff_ne]; omega
      have p2 : ((1 : Int) ≤ (b'.length : Int)) = True := eq_true (by omega)
      have eb := head_drop hb0
      have i2 : ((b'.map encM).getD 0 undefD) = encM b'[0] := by rw [List.getD_eq_getElem?_getD, List.getElem?_map, List.getElem?_eq_getElem hb0]; rfl
      (simp (disch := first | decide | omega | (simp only [nx]; first | done | omega)) only [go_sem, q0, q1, b1]; (repeat with_reducible refine aI ?_))
      refine ddraw_mk 18 (by kernel_rfl) ?_
      (simp (disch := first | decide | omega | (simp only [nx]; first | done | omega)) only [go_sem, q0, q1, b1, b2, b3, ha0, hb0, i1, i2]; (repeat with_reducible refine aI ?_))
      refine dqgo_mk (less_d b'[0] a'[0]) ?_
      cases hlt : ltM b'[0] a'[0] with
      | true =>
        (simp (disch := first | decide | omega | (simp only [nx]; first | done | omega)) only [go_sem, q0, q1, b1, b2]; (repeat with_reducible refine aI ?_))
        refine ddraw_any (fun _ => True) 10 (by (first | (simp (disch := first | decide | omega | (simp only [nx]; first | done | omega)) only [go_sem, q0]; first | done | rfl) | rfl)) (by kernel_rfl) ?_
        (refine s_take 0 rfl (by kernel_rfl) (by kernel_rfl) (v := ?v1) (fun S' hz => dquietR_of ?h1) <| s_take 1 rfl (by kernel_rfl) (by kernel_rfl) (v := ?v2) (fun S' hz => dquietR_of ?h2) <| s_take 2 rfl (by kernel_rfl) (by kernel_rfl) (v := ?v3) (fun S' hz => dquietR_of ?h3) <| s_take 3 rfl (by kernel_rfl) (by kernel_rfl) (v := ?v4) (fun S' hz => dquietR_of ?h4) <| s_take 4 rfl (by kernel_rfl) (by kernel_rfl) (v := ?v5) (fun S' hz => dquietR_of ?h5) <| s_take 6 rfl (by kernel_rfl) (by kernel_rfl) (v := ?v6) (fun S' hz => dquietR_of ?h6) <| s_take 7 rfl (by kernel_rfl) (by kernel_rfl) (v := ?v7) (fun S' hz => dquietR_of ?h7) <| ?k7; (case h1 | h2 | h3 | h4 | h5 | h6 | h7 => ((simp (disch := first | decide | omega | (simp only [nx]; first | done | omega)) only [go_sem, q0, q1, b1, b2, hb0, i1, i2, l2, l4, l6, p2, or_true, hz]; (repeat with_reducible refine aI ?_)); first | done | exact rfl | omega)))
        (refine s_split [5] (by kernel_rfl) (by simp) ?_; intro j_ hj_; obtain rfl : j_ = 5 := (by simpa using hj_); clear hj_; refine s_op rfl ?_; (simp (disch := first | decide | omega | (simp only [nx]; first | done | omega)) only [go_sem]; (repeat with_reducible refine aI ?_)))
        refine grM_app hS hG hol fun c' zs' hG' hnx => ?_
        (refine s_take 8 rfl (by kernel_rfl) (by kernel_rfl) (v := ?v8) (fun S' hz => dquietR_of ?h8) <| s_take 9 rfl (by kernel_rfl) (by kernel_rfl) (v := ?v9) (fun S' hz => dquietR_of ?h9) <| ?k9; (case h8 | h9 => ((simp (disch := first | decide | omega | (simp only [nx]; first | done | omega)) only [go_sem, q0, q1, l2, l4, hz]; (repeat with_reducible refine aI ?_)); first | done | exact rfl | omega)))
        (refine s_done (by kernel_rfl) ?_; (simp (disch := first | decide | omega | (simp only [nx]; first | done | omega)) only [go_sem, q0, q1, l2, l4]; (repeat with_reducible refine aI ?_)))
        refine ⟨by omega, _, fun _ _ h => h, a', b'.drop 1, out ++ [b'[0]], o0, .no, by rw [List.length_drop]; omega, ?_, by (first | (simp (disch := first | decide | omega | (simp only [nx]; first | done | omega)) only [go_sem, q0]; first | done | rfl) | rfl), by (first | (simp (disch := first | decide | omega | (simp only [nx]; first | done | omega)) only [go_sem]; first | done | rfl) | rfl), ?_⟩
        · rw [hm, List.append_assoc]
          conv => lhs; rw [ea, eb, mergeM_lt hlt, ← ea]
          rfl
        · simp (disch := first | decide | omega | (simp only [nx]; first | done | omega)) only [go_sem]
          exact hG'
      | false =>
        (simp (disch := first | decide | omega | (simp only [nx]; first | done | omega)) only [go_sem, q0, q1, b1, b2]; (repeat with_reducible refine aI ?_))
        refine ddraw_mk 12 (by kernel_rfl) ?_
        by_cases he : a'[0] = b'[0]
        · have b4 : decide (a'[0] = b'[0]) = true := decide_eq_true he
          (simp (disch := first | decide | omega | (simp only [nx]; first | done | omega)) only [go_sem, q0, q1, b1, b2, ha0, hb0, i1, i2, b4, l2, l4, l6, p2, or_true]; (repeat with_reducible refine aI ?_))
          refine ddraw_any (fun _ => True) 10 (by (first | (simp (disch := first | decide | omega | (simp only [nx]; first | done | omega)) only [go_sem, q0]; first | done | rfl) | rfl)) (by kernel_rfl) ?_
          (refine s_take 0 rfl (by kernel_rfl) (by kernel_rfl) (v := ?v10) (fun S' hz => dquietR_of ?h10) <| s_take 1 rfl (by kernel_rfl) (by kernel_rfl) (v := ?v11) (fun S' hz => dquietR_of ?h11) <| s_take 2 rfl (by kernel_rfl) (by kernel_rfl) (v := ?v12) (fun S' hz => dquietR_of ?h12) <| s_take 3 rfl (by kernel_rfl) (by kernel_rfl) (v := ?v13) (fun S' hz => dquietR_of ?h13) <| s_take 4 rfl (by kernel_rfl) (by kernel_rfl) (v := ?v14) (fun S' hz => dquietR_of ?h14) <| s_take 6 rfl (by kernel_rfl) (by kernel_rfl) (v := ?v15) (fun S' hz => dquietR_of ?h15) <| s_take 7 rfl (by kernel_rfl) (by kernel_rfl) (v := ?v16) (fun S' hz => dquietR_of ?h16) <| ?k16; (case h10 | h11 | h12 | h13 | h14 | h15 | h16 => ((simp (disch := first | decide | omega | (simp only [nx]; first | done | omega)) only [go_sem, q0, q1, ha0, i1, l1, l3, l5, p1, or_true, hz]; (repeat with_reducible refine aI ?_)); first | done | exact rfl | omega)))
          (refine s_split [5] (by kernel_rfl) (by simp) ?_; intro j_ hj_; obtain rfl : j_ = 5 := (by simpa using hj_); clear hj_; refine s_op rfl ?_; (simp (disch := first | decide | omega | (simp only [nx]; first | done | omega)) only [go_sem]; (repeat with_reducible refine aI ?_)))
          refine grM_app hS hG hol fun c' zs' hG' hnx => ?_
          (refine s_take 8 rfl (by kernel_rfl) (by kernel_rfl) (v := ?v17) (fun S' hz => dquietR_of ?h17) <| s_take 9 rfl (by kernel_rfl) (by kernel_rfl) (v := ?v18) (fun S' hz => dquietR_of ?h18) <| ?k18; (case h17 | h18 => ((simp (disch := first | decide | omega | (simp only [nx]; first | done | omega)) only [go_sem, q0, q1, l1, l3, hz]; (repeat with_reducible refine aI ?_)); first | done | exact rfl | omega)))
          (refine s_done (by kernel_rfl) ?_; (simp (disch := first | decide | omega | (simp only [nx]; first | done | omega)) only [go_sem, q0, q1, l1, l3]; (repeat with_reducible refine aI ?_)))
          exact step _ .no (b'.drop 1) _ (by rw [List.length_drop]; omega) (by conv => { lhs; rw [ea, eb, ← he, mergeM_eq] }) (by (first | (simp (disch := first | decide | omega | (simp only [nx]; first | done | omega)) only [go_sem]; first | done | rfl) | rfl)) (by (first | (simp (disch := first | decide | omega | (simp only [nx]; first | done | omega)) only [go_sem, q1, l2, l4]; first | done | rfl) | rfl)) (by simp (disch := first | decide | omega | (simp only [nx]; first | done | omega)) only [go_sem]; exact hG')
        · have b4 : decide (a'[0] = b'[0]) = false := decide_eq_false he
          (simp (disch := first | decide | omega | (simp only [nx]; first | done | omega)) only [go_sem, q0, q1, b1, b2, ha0, hb0, i1, i2, b4]; (repeat with_reducible refine aI ?_))
          refine ddraw_any (fun _ => True) 10 (by (first | (simp (disch := first | decide | omega | (simp only [nx]; first | done | omega)) only [go_sem, q0]; first | done | rfl) | rfl)) (by kernel_rfl) ?_
          (refine s_take 0 rfl (by kernel_rfl) (by kernel_rfl) (v := ?v19) (fun S' hz => dquietR_of ?h19) <| s_take 1 rfl (by kernel_rfl) (by kernel_rfl) (v := ?v20) (fun S' hz => dquietR_of ?h20) <| s_take 2 rfl (by kernel_rfl) (by kernel_rfl) (v := ?v21) (fun S' hz => dquietR_of ?h21) <| s_take 3 rfl (by kernel_rfl) (by kernel_rfl) (v := ?v22) (fun S' hz => dquietR_of ?h22) <| s_take 4 rfl (by kernel_rfl) (by kernel_rfl) (v := ?v23) (fun S' hz => dquietR_of ?h23) <| s_take 6 rfl (by kernel_rfl) (by kernel_rfl) (v := ?v24) (fun S' hz => dquietR_of ?h24) <| s_take 7 rfl (by kernel_rfl) (by kernel_rfl) (v := ?v25) (fun S' hz => dquietR_of ?h25) <| ?k25; (case h19 | h20 | h21 | h22 | h23 | h24 | h25 => ((simp (disch := first | decide | omega | (simp only [nx]; first | done | omega)) only [go_sem, q0, q1, ha0, i1, l1, l3, l5, p1, or_true, hz]; (repeat with_reducible refine aI ?_)); first | done | exact rfl | omega)))
          (refine s_split [5] (by kernel_rfl) (by simp) ?_; intro j_ hj_; obtain rfl : j_ = 5 := (by simpa using hj_); clear hj_; refine s_op rfl ?_; (simp (disch := first | decide | omega | (simp only [nx]; first | done | omega)) only [go_sem]; (repeat with_reducible refine aI ?_)))
          refine grM_app hS hG hol fun c' zs' hG' hnx => ?_
          (refine s_take 8 rfl (by kernel_rfl) (by kernel_rfl) (v := ?v26) (fun S' hz => dquietR_of ?h26) <| s_take 9 rfl (by kernel_rfl) (by kernel_rfl) (v := ?v27) (fun S' hz => dquietR_of ?h27) <| ?k27; (case h26 | h27 => ((simp (disch := first | decide | omega | (simp only [nx]; first | done | omega)) only [go_sem, q0, q1, l1, l3, hz]; (repeat with_reducible refine aI ?_)); first | done | exact rfl | omega)))
          (refine s_done (by kernel_rfl) ?_; (simp (disch := first | decide | omega | (simp only [nx]; first | done | omega)) only [go_sem, q0, q1, l1, l3]; (repeat with_reducible refine aI ?_)))
          exact step _ o1 b' _ (Nat.le_refl _) (by conv => { lhs; rw [ea, eb, mergeM_gt hlt he, ← eb] }) (by (first | (simp (disch := first | decide | omega | (simp only [nx]; first | done | omega)) only [go_sem]; first | done | rfl) | rfl)) (by (first | (simp (disch := first | decide | omega | (simp only [nx]; first | done | omega)) only [go_sem, q1, l2, l4]; first | done | rfl) | rfl)) (by simp (disch := first | decide | omega | (simp only [nx]; first | done | omega)) only [go_sem]; exact hG')
    · have b2 : decide ((0 : Int) < (b'.length : Int)) = false := decide_eq_false (by omega)
      have b3 : ((b'.length : Int) == 0) = true := by rw [beq_iff_eq]; omega
      (simp (disch := first | decide | omega | (simp only [nx]; first | done | omega)) only [go_sem, q0, q1, b1]; (repeat with_reducible refine aI ?_))
      refine ddraw_mk 18 (by kernel_rfl) ?_
      (simp (disch := first | decide | omega | (simp only [nx]; first | done | omega)) only [go_sem, q0, q1, b1, b2, b3]; (repeat with_reducible refine aI ?_))
      refine ddraw_mk 12 (by kernel_rfl) ?_
      (simp (disch := first | decide | omega | (simp only [nx]; first | done | omega)) only [go_sem, q0, q1, b1, b2]; (repeat with_reducible refine aI ?_))
      refine ddraw_any (fun _ => True) 10 (by (first | (simp (disch := first | decide | omega | (simp only [nx]; first | done | omega)) only [go_sem, q0]; first | done | rfl) | rfl)) (by kernel_rfl) ?_
      (refine s_take 0 rfl (by kernel_rfl) (by kernel_rfl) (v := ?v28) (fun S' hz => dquietR_of ?h28) <| s_take 1 rfl (by kernel_rfl) (by kernel_rfl) (v := ?v29) (fun S' hz => dquietR_of ?h29) <| s_take 2 rfl (by kernel_rfl) (by kernel_rfl) (v := ?v30) (fun S' hz => dquietR_of ?h30) <| s_take 3 rfl (by kernel_rfl) (by kernel_rfl) (v := ?v31) (fun S' hz => dquietR_of ?h31) <| s_take 4 rfl (by kernel_rfl) (by kernel_rfl) (v := ?v32) (fun S' hz => dquietR_of ?h32) <| s_take 6 rfl (by kernel_rfl) (by kernel_rfl) (v := ?v33) (fun S' hz => dquietR_of ?h33) <| s_take 7 rfl (by kernel_rfl) (by kernel_rfl) (v := ?v34) (fun S' hz => dquietR_of ?h34) <| ?k34; (case h28 | h29 | h30 | h31 | h32 | h33 | h34 => ((simp (disch := first | decide | omega | (simp only [nx]; first | done | omega)) only [go_sem, q0, q1, ha0, i1, l1, l3, l5, p1, or_true, hz]; (repeat with_reducible refine aI ?_)); first | done | exact rfl | omega)))
      (refine s_split [5] (by kernel_rfl) (by simp) ?_; intro j_ hj_; obtain rfl : j_ = 5 := (by simpa using hj_); clear hj_; refine s_op rfl ?_; (simp (disch := first | decide | omega | (simp only [nx]; first | done | omega)) only [go_sem]; (repeat with_reducible refine aI ?_)))
      refine grM_app hS hG hol fun c' zs' hG' hnx => ?_
      (refine s_take 8 rfl (by kernel_rfl) (by kernel_rfl) (v := ?v35) (fun S' hz => dquietR_of ?h35) <| s_take 9 rfl (by kernel_rfl) (by kernel_rfl) (v := ?v36) (fun S' hz => dquietR_of ?h36) <| ?k36; (case h35 | h36 => ((simp (disch := first | decide | omega | (simp only [nx]; first | done | omega)) only [go_sem, q0, q1, l1, l3, hz]; (repeat with_reducible refine aI ?_)); first | done | exact rfl | omega)))
      (refine s_done (by kernel_rfl) ?_; (simp (disch := first | decide | omega | (simp only [nx]; first | done | omega)) only [go_sem, q0, q1, l1, l3]; (repeat with_reducible refine aI ?_)))
      exact step _ o1 b' _ (Nat.le_refl _) (by have eb := List.eq_nil_of_length_eq_zero (show b'.length = 0 by omega); subst eb; rw [mergeM_nilr, mergeM_nilr]; exact ea) (by (first | (simp (disch := first | decide | omega | (simp only [nx]; first | done | omega)) only [go_sem]; first | done | rfl) | rfl)) (by (first | (simp (disch := first | decide | omega | (simp only [nx]; first | done | omega)) only [go_sem, q1, l2, l4]; first | done | rfl) | rfl)) (by simp (disch := first | decide | omega | (simp only [nx]; first | done | omega)) only [go_sem]; exact hG')
  · have b1 : decide ((0 : Int) < (a'.length : Int)) = false := decide_eq_false (by omega)
    have ea : a' = [] := List.eq_nil_of_length_eq_zero (by omega)
    by_cases hb0 : 0 < b'.length
    · have b2 : decide ((0 : Int) < (b'.length : Int)) = true := decide_eq_true (by omega)
      have b3 : ((b'.length : Int) == 0) = false := by rw [beq_eq_false_iff_ne]; omega
      have eb := head_drop hb0
      have p2 : ((1 : Int) ≤ (b'.length : Int)) = True := eq_true (by omega)
      have i2 : ((b'.map encM).getD 0 undefD) = encM b'[0] := by rw [List.getD_eq_getElem?_getD, List.getElem?_map, List.getElem?_eq_getElem hb0]; rfl
      (simp (disch := first | decide | omega | (simp only [nx]; first | done | omega)) only [go_sem, q0, q1, b1, b2]; (repeat with_reducible refine aI ?_))
      refine ddraw_mk 18 (by kernel_rfl) ?_
      (simp (disch := first | decide | omega | (simp only [nx]; first | done | omega)) only [go_sem, q0, q1, b1, b2, b3]; (repeat with_reducible refine aI ?_))
      refine ddraw_any (fun _ => True) 10 (by (first | (simp (disch := first | decide | omega | (simp only [nx]; first | done | omega)) only [go_sem, q0]; first | done | rfl) | rfl)) (by kernel_rfl) ?_
      (refine s_take 0 rfl (by kernel_rfl) (by kernel_rfl) (v := ?v37) (fun S' hz => dquietR_of ?h37) <| s_take 1 rfl (by kernel_rfl) (by kernel_rfl) (v := ?v38) (fun S' hz => dquietR_of ?h38) <| s_take 2 rfl (by kernel_rfl) (by kernel_rfl) (v := ?v39) (fun S' hz => dquietR_of ?h39) <| s_take 3 rfl (by kernel_rfl) (by kernel_rfl) (v := ?v40) (fun S' hz => dquietR_of ?h40) <| s_take 4 rfl (by kernel_rfl) (by kernel_rfl) (v := ?v41) (fun S' hz => dquietR_of ?h41) <| s_take 6 rfl (by kernel_rfl) (by kernel_rfl) (v := ?v42) (fun S' hz => dquietR_of ?h42) <| s_take 7 rfl (by kernel_rfl) (by kernel_rfl) (v := ?v43) (fun S' hz => dquietR_of ?h43) <| ?k43; (case h37 | h38 | h39 | h40 | h41 | h42 | h43 => ((simp (disch := first | decide | omega | (simp only [nx]; first | done | omega)) only [go_sem, q0, q1, b1, b2, hb0, i2, l2, l4, l6, p2, or_true, hz]; (repeat with_reducible refine aI ?_)); first | done | exact rfl | omega)))
      (refine s_split [5] (by kernel_rfl) (by simp) ?_; intro j_ hj_; obtain rfl : j_ = 5 := (by simpa using hj_); clear hj_; refine s_op rfl ?_; (simp (disch := first | decide | omega | (simp only [nx]; first | done | omega)) only [go_sem]; (repeat with_reducible refine aI ?_)))
      refine grM_app hS hG hol fun c' zs' hG' hnx => ?_
      (refine s_take 8 rfl (by kernel_rfl) (by kernel_rfl) (v := ?v44) (fun S' hz => dquietR_of ?h44) <| s_take 9 rfl (by kernel_rfl) (by kernel_rfl) (v := ?v45) (fun S' hz => dquietR_of ?h45) <| ?k45; (case h44 | h45 => ((simp (disch := first | decide | omega | (simp only [nx]; first | done | omega)) only [go_sem, q0, q1, l2, l4, hz]; (repeat with_reducible refine aI ?_)); first | done | exact rfl | omega)))
      (refine s_done (by kernel_rfl) ?_; (simp (disch := first | decide | omega | (simp only [nx]; first | done | omega)) only [go_sem, q0, q1, l2, l4]; (repeat with_reducible refine aI ?_)))
      refine ⟨by omega, _, fun _ _ h => h, a', b'.drop 1, out ++ [b'[0]], o0, .no, by rw [List.length_drop]; omega, ?_, by (first | (simp (disch := first | decide | omega | (simp only [nx]; first | done | omega)) only [go_sem, q0]; first | done | rfl) | rfl), by (first | (simp (disch := first | decide | omega | (simp only [nx]; first | done | omega)) only [go_sem]; first | done | rfl) | rfl), ?_⟩
      · rw [hm, List.append_assoc, ea, mergeM_nill, mergeM_nill]
        conv => lhs; rw [eb]
        rfl
      · simp (disch := first | decide | omega | (simp only [nx]; first | done | omega)) only [go_sem]
        exact hG'
    · have b2 : decide ((0 : Int) < (b'.length : Int)) = false := decide_eq_false (by omega)
      (simp (disch := first | decide | omega | (simp only [nx]; first | done | omega)) only [go_sem, q0, q1, b1, b2]; (repeat with_reducible refine aI ?_))
      have eb : b' = [] := List.eq_nil_of_length_eq_zero (by omega)
      have hmm : mergeM a b = out := by rw [hm, ea, eb, mergeM_nill, List.append_nil]
      rw [hmm]
      obtain ⟨S1, k, c, zs, t1, t2, t3, t4, t5, t6⟩ := hG.own.win
      refine ⟨S1, _, t1, k, c, zs, by rw [List.length_map], ?_, ⟨t3, t4, t5⟩, ?_⟩
      · rcases t6 with ⟨o, n, c', e⟩ | e
        · exact hG.lo _ _ _ _ e
        · rw [e]; exact hG.sub.next
      · rcases t2 with e | e
        · rw [e]; exact hG.sub
        · rw [e]; exact hG.sub.add hS _
end
end Go.Proofs.Ytgadflonnnkjcaa

namespace Go.Proofs.Ytgadflonnnkjcaa
open Go.RowKit
theorem merge_d (own own2 : Own) (a b : List DMk) (ha : a.length ≤ 1000000) (hb : b.length ≤ 1000000) : DPure Try.prog 17 [.sl own (a.map encM), .sl own2 (b.map encM)] (.sl .no ((mergeM a b).map encM)) := dpure_own fun _ _ => merge_w own own2 a b ha hb
theorem lineM_le {l : List DMk} {n : Nat} (h : l.length ≤ n) : (lineM l).length ≤ n := Nat.le_trans (lineM_len l) h
section
set_option maxRecDepth 200000
set_option maxHeartbeats 4000000
theorem lineMerges_d (a b : List DMk) : DPure Try.prog 4 [.sl .no (a.map encM), .sl .no (b.map encM)] (.v (.bool true)) := by
  refine dpure_of_dwp mixed Try.func4 rfl (fun _ _ => by kernel_rfl) (rs := [.tmp 4]) rfl (by kernel_rfl) trivial (fun S hS => ?_)
  by_cases h1 : a.length > 60
  · have b1 : decide ((a.length : Int) > 60) = true := decide_eq_true (by omega)
    (simp (disch := first | decide | omega | (simp only [nx]; first | done | omega)) only [go_sem, b1]; (repeat with_reducible refine aI ?_))
    refine DCalls.of_pure awake_d ?_
    (simp (disch := first | decide | omega | (simp only [nx]; first | done | omega)) only [go_sem]; (repeat with_reducible refine aI ?_))
    refine ⟨?_, (by (repeat' first | assumption | exact St.Sub.refl _ | exact RowOk.sub (by assumption) (by assumption) | refine St.Sub.trans ?_ (RowOk.sub (by assumption) (by assumption)) | refine St.Sub.add ?_ ?_ _ | refine St.Sub.set ?_ ?_ ?_ _ | refine St.Sub.keep ?_ ?_ | refine St.WF.leave ?_ _ | refine St.WF.add ?_ _ | refine St.WF.set ?_ ?_ _ | refine St.WF.grow ?_ _ _ _ | refine St.WF.keep ?_ ?_ | (first | omega | (simp only [RowOk.lo, nx]; first | done | omega))))⟩
    rfl
  have b1 : decide ((a.length : Int) > 60) = false := decide_eq_false (by omega)
  by_cases h2 : b.length > 60
  · have b2 : decide ((b.length : Int) > 60) = true := decide_eq_true (by omega)
    (simp (disch := first | decide | omega | (simp only [nx]; first | done | omega)) only [go_sem, b1, b2]; (repeat with_reducible refine aI ?_))
    refine DCalls.of_pure awake_d ?_
    (simp (disch := first | decide | omega | (simp only [nx]; first | done | omega)) only [go_sem]; (repeat with_reducible refine aI ?_))
    refine ⟨?_, (by (repeat' first | assumption | exact St.Sub.refl _ | exact RowOk.sub (by assumption) (by assumption) | refine St.Sub.trans ?_ (RowOk.sub (by assumption) (by assumption)) | refine St.Sub.add ?_ ?_ _ | refine St.Sub.set ?_ ?_ ?_ _ | refine St.Sub.keep ?_ ?_ | refine St.WF.leave ?_ _ | refine St.WF.add ?_ _ | refine St.WF.set ?_ ?_ _ | refine St.WF.grow ?_ _ _ _ | refine St.WF.keep ?_ ?_ | (first | omega | (simp only [RowOk.lo, nx]; first | done | omega))))⟩
    rfl
  have b2 : decide ((b.length : Int) > 60) = false := decide_eq_false (by omega)
  have ha := lineM_le (l := a) (n := 1000000) (by omega)
  have hb := lineM_le (l := b) (n := 1000000) (by omega)
  (simp (disch := first | decide | omega | (simp only [nx]; first | done | omega)) only [go_sem, b1, b2]; (repeat with_reducible refine aI ?_))
  refine DCalls.of_pure (refSort_d .no a (by omega)) ?_
  (simp (disch := first | decide | omega | (simp only [nx]; first | done | omega)) only [go_sem]; (repeat with_reducible refine aI ?_))
  refine DCalls.of_pure (refSort_d .no b (by omega)) ?_
  (simp (disch := first | decide | omega | (simp only [nx]; first | done | omega)) only [go_sem]; (repeat with_reducible refine aI ?_))
  (refine dloop_st (fun t => List.contains [7, 21, 22, 23, 24, 25, 26, 27, 28, 29, 30, 31, 32, 33, 34, 35, 36, 37, 38, 39, 40, 41, 42, 43] t) (by kernel_rfl) ?_ (a.length) (fun i f => i ≤ a.length ∧ f 7 = .v (.int .i64 (i : Nat)) ∧ (i ≤ b.length ∧ ∀ j, j < i → a[j]? = b[j]?)) ?_ ?_; (exact (by (repeat' first | assumption | refine St.WF.leave ?_ _ | refine St.WF.add ?_ _ | refine St.WF.set ?_ ?_ _ | refine St.WF.grow ?_ _ _ _ | refine St.WF.keep ?_ ?_ | (first | omega | (simp only [RowOk.lo, nx]; first | done | omega))))); (exact ⟨(by omega), (by (first | (simp (disch := first | decide | omega | (simp only [nx]; first | done | omega)) only [go_sem]; first | done | rfl) | rfl)), (⟨Nat.zero_le _, fun j h => by omega⟩)⟩); intro i g tn hn hT hg hI; obtain ⟨le, q7, hs⟩ := hI; have q0 := hg 0 rfl; have q1 := hg 1 rfl; have q4 := hg 4 rfl; have q5 := hg 5 rfl; have q6 := hg 6 rfl; simp (disch := first | decide | omega | (simp only [nx]; first | done | omega)) only [go_sem] at q0 q1 q4 q5 q6; clear hg; have hn' := hn; try simp only [add_next, set_next, grow_next, leave_next, drop_next] at hn')
  obtain ⟨hib, hs⟩ := hs
  by_cases h3 : i < a.length
  · have c1 : decide ((i : Int) < (a.length : Int)) = true := decide_eq_true (by omega)
    by_cases h4 : i < b.length
    · have c2 : decide ((i : Int) < (b.length : Int)) = true := decide_eq_true (by omega)
      by_cases h5 : a[i] = b[i]
      · have c3 : decide (a[i] = b[i]) = true := decide_eq_true h5
        have w1 : IntKind.i64.wrap ((i : Int) + 1) = ((i + 1 : Nat) : Int) := IntWalk.i64_in _ ⟨by omega, by omega⟩
        refine ddraw_mk 21 (by kernel_rfl) ?_
        (simp (disch := first | decide | omega | (simp only [nx]; first | done | omega)) only [go_sem, q0, q1, q5, q6, q7, c1, c2, h3, h4, c3, w1]; (repeat with_reducible refine aI ?_))
        (refine ⟨by omega, (by (repeat' first | assumption | exact St.Sub.refl _ | exact RowOk.sub (by assumption) (by assumption) | refine St.Sub.trans ?_ (RowOk.sub (by assumption) (by assumption)) | refine St.Sub.add ?_ ?_ _ | refine St.Sub.set ?_ ?_ ?_ _ | refine St.Sub.keep ?_ ?_ | refine St.WF.leave ?_ _ | refine St.WF.add ?_ _ | refine St.WF.set ?_ ?_ _ | refine St.WF.grow ?_ _ _ _ | refine St.WF.keep ?_ ?_ | (first | omega | (simp only [RowOk.lo, nx]; first | done | omega)))), ?_⟩; refine ⟨by omega, ?_, ?_⟩; all_goals (try (first | (simp (disch := first | decide | omega | (simp only [nx]; first | done | omega)) only [go_sem, w1]; first | done | rfl) | rfl)))
        refine ⟨by omega, fun j hj => ?_⟩
        by_cases e : j = i
        · subst e; rw [List.getElem?_eq_getElem h3, List.getElem?_eq_getElem h4, h5]
        · exact hs j (by omega)
      · have c3 : decide (a[i] = b[i]) = false := decide_eq_false h5
        refine ddraw_mk 21 (by kernel_rfl) ?_
        (simp (disch := first | decide | omega | (simp only [nx]; first | done | omega)) only [go_sem, q0, q1, q5, q6, q7, c1, c2, h3, h4, c3]; (repeat with_reducible refine aI ?_))
        have hcm : commonM a b = i := commonM_at (by omega) (by omega) hs (by exact fun _ _ => h5)
        refine DCalls.of_pure (merge_d .no .no (lineM a) (lineM b) ha hb) ?_
        (simp (disch := first | decide | omega | (simp only [nx]; first | done | omega)) only [go_sem, q0]; (repeat with_reducible refine aI ?_))
        refine app_more elMk zeMk (.inl rfl) (fun _ h => by cases h) (by rw [szMk]; exact wMk a) (by simp only [List.length_nil, List.length_map]; omega) (by simp only [List.length_nil, List.length_map, byMk]; omega) ?_
        (simp (disch := first | decide | omega | (simp only [nx]; first | done | omega)) only [go_sem, q1]; (repeat with_reducible refine aI ?_))
        refine app_more elMk zeMk (.inr ⟨tn, rfl, by rw [List.length_map]; exact growM_hit (S := ⟨tn, S.ob⟩)⟩) (by rw [szMk]; exact wMk a) (by rw [szMk]; exact wMk b) (by simp only [List.nil_append, List.length_map]; omega) (by simp only [List.nil_append, List.length_map, byMk]; omega) ?_
        have hap : a.map encM ++ b.map encM = (a ++ b).map encM := by simp
        (simp (disch := first | decide | omega | (simp only [nx]; first | done | omega)) only [go_sem, List.nil_append, hap]; (repeat with_reducible refine aI ?_))
        refine DCalls.of_pure (refSort_d _ (a ++ b) (by rw [List.length_append]; omega)) ?_
        (simp (disch := first | decide | omega | (simp only [nx]; first | done | omega)) only [go_sem]; (repeat with_reducible refine aI ?_))
        rw [mergeM_line]
        refine DCalls.of_pure (same_d .no .no (lineM (a ++ b)) (lineM (a ++ b)) (lineM_le (by rw [List.length_append]; omega))) ?_
        rw [decide_eq_true rfl]
        (simp (disch := first | decide | omega | (simp only [nx]; first | done | omega)) only [go_sem, q0, q1, q7]; (repeat with_reducible refine aI ?_))
        refine DCalls.of_pure (common_d .no .no a b (by omega)) ?_
        have e1 : (((commonM a b : Nat) : Int) == (i : Int)) = true := by rw [hcm]; simp
        (simp (disch := first | decide | omega | (simp only [nx]; first | done | omega)) only [go_sem, q7, e1]; (repeat with_reducible refine aI ?_))
        refine DCalls.of_pure awake_d ?_
        (simp (disch := first | decide | omega | (simp only [nx]; first | done | omega)) only [go_sem]; (repeat with_reducible refine aI ?_))
        have sb : S.Sub (({ next := tn, ob := S.ob } : St).grow Own.full 26 a.length) := St.Sub.grow (S' := ⟨tn, S.ob⟩) ⟨hn', fun _ _ h => h⟩ hS (fun _ h => by cases h) _ _
        refine ⟨?_, St.Sub.grow sb hS (own := .row tn) (fun g h => by injection h with h; omega) _ _⟩
        rfl
    · have c2 : decide ((i : Int) < (b.length : Int)) = false := decide_eq_false (by omega)
      refine ddraw_mk 21 (by kernel_rfl) ?_
      (simp (disch := first | decide | omega | (simp only [nx]; first | done | omega)) only [go_sem, q0, q1, q5, q6, q7, c1, c2]; (repeat with_reducible refine aI ?_))
      have hcm : commonM a b = i := commonM_at (by omega) (by omega) hs (by exact fun _ h => absurd h h4)
      refine DCalls.of_pure (merge_d .no .no (lineM a) (lineM b) ha hb) ?_
      (simp (disch := first | decide | omega | (simp only [nx]; first | done | omega)) only [go_sem, q0]; (repeat with_reducible refine aI ?_))
      refine app_more elMk zeMk (.inl rfl) (fun _ h => by cases h) (by rw [szMk]; exact wMk a) (by simp only [List.length_nil, List.length_map]; omega) (by simp only [List.length_nil, List.length_map, byMk]; omega) ?_
      (simp (disch := first | decide | omega | (simp only [nx]; first | done | omega)) only [go_sem, q1]; (repeat with_reducible refine aI ?_))
      refine app_more elMk zeMk (.inr ⟨tn, rfl, by rw [List.length_map]; exact growM_hit (S := ⟨tn, S.ob⟩)⟩) (by rw [szMk]; exact wMk a) (by rw [szMk]; exact wMk b) (by simp only [List.nil_append, List.length_map]; omega) (by simp only [List.nil_append, List.length_map, byMk]; omega) ?_
      have hap : a.map encM ++ b.map encM = (a ++ b).map encM := by simp
      (simp (disch := first | decide | omega | (simp only [nx]; first | done | omega)) only [go_sem, List.nil_append, hap]; (repeat with_reducible refine aI ?_))
      refine DCalls.of_pure (refSort_d _ (a ++ b) (by rw [List.length_append]; omega)) ?_
      (simp (disch := first | decide | omega | (simp only [nx]; first | done | omega)) only [go_sem]; (repeat with_reducible refine aI ?_))
      rw [mergeM_line]
      refine DCalls.of_pure (same_d .no .no (lineM (a ++ b)) (lineM (a ++ b)) (lineM_le (by rw [List.length_append]; omega))) ?_
      rw [decide_eq_true rfl]
      (simp (disch := first | decide | omega | (simp only [nx]; first | done | omega)) only [go_sem, q0, q1, q7]; (repeat with_reducible refine aI ?_))
      refine DCalls.of_pure (common_d .no .no a b (by omega)) ?_
      have e1 : (((commonM a b : Nat) : Int) == (i : Int)) = true := by rw [hcm]; simp
      (simp (disch := first | decide | omega | (simp only [nx]; first | done | omega)) only [go_sem, q7, e1]; (repeat with_reducible refine aI ?_))
      refine DCalls.of_pure awake_d ?_
      (simp (disch := first | decide | omega | (simp only [nx]; first | done | omega)) only [go_sem]; (repeat with_reducible refine aI ?_))
      have sb : S.Sub (({ next := tn, ob := S.ob } : St).grow Own.full 26 a.length) := St.Sub.grow (S' := ⟨tn, S.ob⟩) ⟨hn', fun _ _ h => h⟩ hS (fun _ h => by cases h) _ _
      refine ⟨?_, St.Sub.grow sb hS (own := .row tn) (fun g h => by injection h with h; omega) _ _⟩
      rfl
  · have c1 : decide ((i : Int) < (a.length : Int)) = false := decide_eq_false (by omega)
    refine ddraw_mk 21 (by kernel_rfl) ?_
    (simp (disch := first | decide | omega | (simp only [nx]; first | done | omega)) only [go_sem, q0, q1, q5, q6, q7, c1]; (repeat with_reducible refine aI ?_))
    have hcm : commonM a b = i := commonM_at (by omega) (by omega) hs (by exact fun h _ => absurd h h3)
    refine DCalls.of_pure (merge_d .no .no (lineM a) (lineM b) ha hb) ?_
    (simp (disch := first | decide | omega | (simp only [nx]; first | done | omega)) only [go_sem, q0]; (repeat with_reducible refine aI ?_))
    refine app_more elMk zeMk (.inl rfl) (fun _ h => by cases h) (by rw [szMk]; exact wMk a) (by simp only [List.length_nil, List.length_map]; omega) (by simp only [List.length_nil, List.length_map, byMk]; omega) ?_
    (simp (disch := first | decide | omega | (simp only [nx]; first | done | omega)) only [go_sem, q1]; (repeat with_reducible refine aI ?_))
    refine app_more elMk zeMk (.inr ⟨tn, rfl, by rw [List.length_map]; exact growM_hit (S := ⟨tn, S.ob⟩)⟩) (by rw [szMk]; exact wMk a) (by rw [szMk]; exact wMk b) (by simp only [List.nil_append, List.length_map]; omega) (by simp only [List.nil_append, List.length_map, byMk]; omega) ?_
    have hap : a.map encM ++ b.map encM = (a ++ b).map encM := by simp
    (simp (disch := first | decide | omega | (simp only [nx]; first | done | omega)) only [go_sem, List.nil_append, hap]; (repeat with_reducible refine aI ?_))
    refine DCalls.of_pure (refSort_d _ (a ++ b) (by rw [List.length_append]; omega)) ?_
    (simp (disch := first | decide | omega | (simp only [nx]; first | done | omega)) only [go_sem]; (repeat with_reducible refine aI ?_))
    rw [mergeM_line]
    refine DCalls.of_pure (same_d .no .no (lineM (a ++ b)) (lineM (a ++ b)) (lineM_le (by rw [List.length_append]; omega))) ?_
    rw [decide_eq_true rfl]
    (simp (disch := first | decide | omega | (simp only [nx]; first | done | omega)) only [go_sem, q0, q1, q7]; (repeat with_reducible refine aI ?_))
    refine DCalls.of_pure (common_d .no .no a b (by omega)) ?_
    have e1 : (((commonM a b : Nat) : Int) == (i : Int)) = true := by rw [hcm]; simp
    (simp (disch := first | decide | omega | (simp only [nx]; first | done | omega)) only [go_sem, q7, e1]; (repeat with_reducible refine aI ?_))
    refine DCalls.of_pure awake_d ?_
    (simp (disch := first | decide | omega | (simp only [nx]; first | done | omega)) only [go_sem]; (repeat with_reducible refine aI ?_))
    have sb : S.Sub (({ next := tn, ob := S.ob } : St).grow Own.full 26 a.length) := St.Sub.grow (S' := ⟨tn, S.ob⟩) ⟨hn', fun _ _ h => h⟩ hS (fun _ h => by cases h) _ _
    refine ⟨?_, St.Sub.grow sb hS (own := .row tn) (fun g h => by injection h with h; omega) _ _⟩
    rfl
end
end Go.Proofs.Ytgadflonnnkjcaa

namespace Go.Proofs.Ytgadflonnnkjcaa
open Go.ChangeShapes Go.WideShapes Go.ChangeAt Go.RowKit
theorem lineMerges_own : ownKnob Try.prog.godebug = none := by kernel_rfl
theorem lineMerges_laidOut : laidOutB Try.prog = true := by kernel_rfl
set_option maxRecDepth 100000 in
theorem lineMerges_lifted (os : Os) (started : os.Started) (H : Type) (enc : TypeId × Value → H) :
    ReturnsInHanded {} Try.checked os 4 .any (Rows.lineMergesSpec.pre6 enc Try.prog Try.f4 Rows.lineMergesRow.domain false) (Rows.lineMergesSpec.post enc Try.prog Try.f4 false true false false) := by
  refine returnsInHanded_of_change_sized (C := Try.checked) lineMerges_own started (by kernel_rfl) Try.func4
    (ChangeSpec.witness6 (enc := enc) (C := Try.checked) false ⟨#[], #[.slice none 0 0, .slice none 0 0], []⟩ 8 (by kernel_rfl) (by kernel_rfl) (by kernel_rfl) (by kernel_rfl)) ?_
  intro W base args ds gs before hval0 hW hcnd hsz0 _
  have hval : ∀ (j : Nat) t v, Try.f4.params[j]? = some t → args[j]? = some v → Value.okWide Try.prog W .any base t v := hval0
  have hsz : (DataW.weightsEach Try.prog (Try.f4.params.toList ++ Rows.lineMergesSpec.plain.varTypes Try.prog) (ds ++ gs)).all (· ≤ reachBytes) = true := hsz0
  have hW' := hW
  obtain ⟨p, q, hA0, hV, rfl, hfz, hnd⟩ := hW
  have hA : DataW.TrodAll enc Try.prog W 0 (fun _ => true) true Try.f4.params.toList args.toList ds p := hA0
  obtain ⟨rfl, rfl⟩ := trodVars_none hV
  rw [Try.params4] at hA hval hsz
  have hA1 := hA
  obtain ⟨v0, vs0, d0, ds0, p0, q0, hargs, rfl, rfl, h0, r0⟩ := trodAll_cons hA
  obtain ⟨v1, vs1, d1, ds1, p1, q1, rfl, rfl, rfl, h1, r1⟩ := trodAll_cons r0
  obtain ⟨rfl, rfl, rfl⟩ := trodAll_nil r1
  obtain rfl : args = #[v0, v1] := by cases args; simp_all
  have z0 : Sized Try.prog 22 d0 := sized_of_each (j := 0) hsz rfl rfl
  have k0 : Value.okWide Try.prog W .any base 22 v0 := hval 0 _ _ rfl rfl
  have z1 : Sized Try.prog 22 d1 := sized_of_each (j := 1) hsz rfl rfl
  have k1 : Value.okWide Try.prog W .any base 22 v1 := hval 1 _ _ rfl rfl
  clear hA0 hval0 hsz hsz0 hval
  have key : Calls Try.prog 4 #[v0, v1] W (Gives (.bool true) W) := by
    obtain ⟨a, _, ha⟩ := open_marks h0 z0 k0
    obtain ⟨b, _, hb⟩ := open_marks h1 z1 k1
    exact gives_of_dpure (vs := [v0, v1]) (lineMerges_d a b) (by simp only [RepL]; exact ⟨_, _, rfl, ha _ _ fix_nil, _, _, rfl, hb _ _ fix_nil, rfl⟩)
  refine key.mono fun e W' ⟨he, bel⟩ => ?_
  subst he
  exact ⟨_, rfl, _, _, _, [], _, [], hW', trodAll_mk1 (shut_bool Try.underlying4 _), trodAll_below lineMerges_laidOut bel (by kernel_rfl) hA1, rfl, bel.frame _, fun h => by cases h⟩

theorem lineMerges_holds : Rows.LineMergesSaid :=
  OpenClaim.holds_of_wide 4 Try.f4 rfl rfl rfl rfl rfl rfl rfl ⟨rfl, rfl, rfl, rfl, rfl⟩ rfl rfl rfl rfl rfl (by kernel_rfl) Try.func4 (by kernel_rfl)
    (of_decide_eq_true (by kernel_rfl)) (by unfold Func.isWrapper; first | (rw [if_pos (by decide +kernel)]; kernel_rfl) | (rw [if_neg (by decide +kernel)]; exact ⟨rfl, rfl⟩))
    (fun os started H enc _ => lineMerges_lifted os started H enc)
#print axioms lineMerges_holds
end Go.Proofs.Ytgadflonnnkjcaa
