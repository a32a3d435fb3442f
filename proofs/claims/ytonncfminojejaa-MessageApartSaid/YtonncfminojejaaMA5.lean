/- Texts of a proof, part 5. Conditions: none. -/
import Derived.Test.YtonncfminojejaaMA4
import Derived.RangeFuncLeaves
import Derived.RangeFuncRecord
import Derived.RangeFuncSeq
import Derived.OrdersIn
import Derived.TacticsIn
set_option linter.unusedVariables false
set_option linter.unusedSimpArgs false
namespace Go.Proofs.Ytonncfminojejaa
open Go.RowKit
theorem elHs : elT Try.prog 23 = some 44 := by kernel_rfl
theorem szHs : szOf Try.prog 44 = 32 := by kernel_rfl
theorem byHs : bytesOf Try.prog 44 = 32 := by kernel_rfl
theorem zeHs : zeroT Try.prog 44 = true := by kernel_rfl
theorem zoHs : zeroOk Try.prog 44 = true := by kernel_rfl
theorem flatHs_len (l : List H32) : (flat (l.map encH)).length = l.length * 32 := by rw [dflat_length (wHs l), List.length_map]
theorem hs_at {l : List H32} {zs : List D} {i : Nat} (hi : i < l.length) : ((flat (l.map encH) ++ zs).drop (i * 32)).take 32 = (l[i].1.map bD) := by
  have hf := flatHs_len (l.take i)
  rw [List.length_take, Nat.min_eq_left (by omega)] at hf
  have e : l = l.take i ++ l[i] :: l.drop (i + 1) := by rw [← List.drop_eq_getElem_cons hi, List.take_append_drop]
  have e2 : flat (l.map encH) = flat ((l.take i).map encH) ++ ((l[i].1.map bD) ++ flat ((l.drop (i + 1)).map encH)) := by
    conv => lhs; rw [e]
    rw [List.map_append, List.map_cons, flat_append, flat_cons, cells_encH]
  rw [e2, List.append_assoc, List.drop_append_of_le_length (by omega), List.drop_of_length_le (by omega), List.nil_append, List.append_assoc, List.take_append_of_le_length (by rw [len_encH]; omega), take_hash]
structure OwnH (T : St) (k c : Nat) (zs : List D) (l : List H32) : Prop where
  ob : T.ob k = some (ownOb 44 (l.map encH) zs c)
  ln : (flat (l.map encH) ++ zs).length = c * 32
  lt : k < T.next
theorem OwnH.le {T : St} {k c : Nat} {zs : List D} {l : List H32} (h : OwnH T k c zs l) : l.length ≤ c := by
  have := ownOb_len (wHs l) (by omega) h.ln
  rwa [List.length_map] at this
theorem OwnH.pos {T : St} {k c : Nat} {zs : List D} {l : List H32} (h : OwnH T k c zs l) (hl : 0 < l.length) : T.ob k = some (.box 44 (flat (l.map encH) ++ zs)) := by
  have h1 := h.le
  have h2 := h.ob
  rwa [ownOb_box (by omega)] at h2
theorem thawH {T : St} {k c : Nat} {zs : List D} {l : List H32} (h : OwnH T k c zs l) {d d1 : D} (hd : d.thaw k (l.map encH) = d1) : Thaw Try.prog T d (T.drop k) d1 := thaw_own h.ob (by rw [List.length_map]; exact h.le) (by rw [szHs]; omega) (by rw [szHs]; exact wHs l) hd
theorem dpure_ownH {g : FuncId} {args : List D} {l : List H32} (h : ∀ S : St, S.WF → DCalls Try.prog g args S fun d T => ∃ k c zs, d = .win k 0 l.length c ∧ S.next ≤ k ∧ OwnH T k c zs l ∧ S.Sub T) : DPure Try.prog g args (.sl .no (l.map encH)) := fun S base η w vs hM hr =>
  calls_fin ((h S hM.fresh).mono fun d T ⟨k, c, zs, e, hk, ho, hs⟩ => ⟨T.drop k, .sl .no (l.map encH), by
    subst e
    refine thawH ho ?_
    simp only [D.thaw, List.length_map, Nat.beq_refl, Bool.and_self, cond_true], fin_same hM.fresh (closed_Hs l) ⟨hs.next, fun j o hj => by
    have := St.WF.lt (S := S) hM.fresh hj
    simp only [St.drop]
    rw [if_neg (by omega)]
    exact hs.ob j o hj⟩⟩) base η w vs hM hr
def curH (l : List H32) (q : Nat) : List H32 := packH (l.take q) ++ l.drop (packH (l.take q)).length
theorem packH_takeLen (l : List H32) (q : Nat) : (packH (l.take q)).length ≤ q ∧ (packH (l.take q)).length ≤ l.length := by
  have h := packH_len (l.take q)
  rw [List.length_take] at h
  omega
theorem curH_len (l : List H32) (q : Nat) : (curH l q).length = l.length := by
  have := packH_takeLen l q
  rw [curH, List.length_append, List.length_drop]
  omega
theorem curH_at (l : List H32) (q i : Nat) (h : (packH (l.take q)).length ≤ i) (hi : i < l.length) : (curH l q)[i]'(by rw [curH_len]; exact hi) = l[i] := by
  unfold curH
  rw [List.getElem_append_right h, List.getElem_drop]
  congr 1
  omega
theorem curH_none {l : List H32} {q : Nat} (h : packH (l.take q) = l.take q) : curH l q = l := by
  unfold curH
  rw [h, List.length_take]
  rcases Nat.lt_or_ge q l.length with h1 | h1
  · rw [Nat.min_eq_left (by omega), List.take_append_drop]
  · rw [List.take_of_length_le h1, List.drop_of_length_le (by omega), List.append_nil]
theorem curH_same {l : List H32} {i : Nat} (h : i + 1 < l.length) (he : l[i] = l[i + 1]) : curH l (i + 2) = curH l (i + 1) := by
  unfold curH
  rw [packH_take l i h, if_pos he]
theorem curH_new {l : List H32} {i : Nat} (h : i + 1 < l.length) (he : l[i] ≠ l[i + 1]) (hp : (packH (l.take (i + 1))).length < l.length) : curH l (i + 2) = (curH l (i + 1)).set (packH (l.take (i + 1))).length l[i + 1] := by
  unfold curH
  rw [packH_take l i h, if_neg he, List.set_append_right _ _ (Nat.le_refl _), Nat.sub_self, List.drop_eq_getElem_cons hp, List.set_cons_zero, List.length_append, List.append_assoc]
  rfl
section
set_option maxRecDepth 200000
set_option maxHeartbeats 4000000
theorem compactH_w {S : St} {k c : Nat} {zs : List D} (l : List H32) (ho : OwnH S k c zs l) (hlen : l.length ≤ 1000000) :
    DCalls Try.prog 51 [.win k 0 l.length c] S (fun d T => ∃ zs', d = .win k 0 (packH l).length c ∧ OwnH T k c zs' (packH l) ∧ S.next ≤ T.next ∧ ∀ j o, j ≠ k → S.ob j = some o → T.ob j = some o) := by
  have hle := ho.le
  have hlt := ho.lt
  refine dcalls_inline mixed Try.func51 rfl (fun _ _ => by kernel_rfl) (rs := [.tmp 2]) rfl (by kernel_rfl) (fun hS => ?_)
  by_cases h2 : l.length < 2
  · have b1 : decide ((l.length : Int) < 2) = true := by simp; omega
    have hp : packH l = l := by
      match l, h2 with
      | [], _ => rfl
      | [x], _ => rfl
    (simp (disch := first | decide | omega | (simp only [nx]; first | done | omega)) only [go_sem, b1]; (repeat with_reducible refine aI ?_))
    rw [hp]
    exact ⟨zs, rfl, ho, Nat.le_refl _, fun _ _ _ h => h⟩
  have b1 : decide ((l.length : Int) < 2) = false := by simp; omega
  have hk := ho.pos (by omega)
  (simp (disch := first | decide | omega | (simp only [nx]; first | done | omega)) only [go_sem, b1]; (repeat with_reducible refine aI ?_))
  (refine dloop_st (fun t => List.contains [2, 3, 4, 5, 10, 11, 12, 13, 14, 15, 16, 17, 18, 19, 20, 21, 22, 23, 24, 25, 26, 27, 28, 29, 30, 31, 32, 33, 34, 35, 36, 37, 38, 39, 40, 41, 42, 43, 44, 45, 46, 47, 48, 49, 50, 51, 52, 53, 54, 55, 56, 57, 58, 59] t) (by kernel_rfl) ?_ (l.length) (fun i f => i ≤ l.length ∧ f 3 = .v (.int .i64 ((i + 1 : Nat))) ∧ f 2 = .sl .full [] ∧ (packH (l.take (i + 1)) = l.take (i + 1))) ?_ ?_; (exact (by (repeat' first | assumption | refine St.WF.leave ?_ _ | refine St.WF.add ?_ _ | refine St.WF.set ?_ ?_ _ | refine St.WF.grow ?_ _ _ _ | refine St.WF.keep ?_ ?_ | (first | omega | (simp only [RowOk.lo, nx]; first | done | omega))))); (exact ⟨(by omega), (by (first | (simp (disch := first | decide | omega | (simp only [nx]; first | done | omega)) only [go_sem]; first | done | rfl) | rfl)), (by (first | (simp (disch := first | decide | omega | (simp only [nx]; first | done | omega)) only [go_sem]; first | done | rfl) | rfl)), (by rw [List.take_succ_eq_append_getElem (by omega)]; rfl)⟩); intro i g tn hn hT hg hI; obtain ⟨le, q3, q2, hp⟩ := hI; have q0 := hg 0 rfl; simp (disch := first | decide | omega | (simp only [nx]; first | done | omega)) only [go_sem] at q0; clear hg; have hn' := hn; try simp only [add_next, set_next, grow_next, leave_next, drop_next] at hn')
  by_cases hlt1 : i + 1 < l.length
  · have b2 : decide (((i + 1 : Nat) : Int) < (l.length : Int)) = true := by simp; omega
    have w0 : IntKind.i64.wrap (((i + 1 : Nat) : Int) - 1) = ((i : Nat) : Int) := by rw [IntKind.wrap_i64]; omega
    have w1 : IntKind.i64.wrap (((i + 1 : Nat) : Int) + 1) = ((i + 1 + 1 : Nat) : Int) := IntWalk.i64_in _ ⟨by omega, by omega⟩
    have hcs := ho.ln
    have m1 := hs_at (zs := zs) hlt1
    have m2 := hs_at (zs := zs) (by omega : i < l.length)
    by_cases he : l[i + 1] = l[i]
    · have b3 : decide (l[i + 1] = l[i]) = true := decide_eq_true he
      have hq : packH (l.take (i + 2)) = l.take (i + 1) := by rw [packH_take l i hlt1, if_pos he.symm, hp]
      (simp (disch := first | decide | omega | (simp only [nx]; first | done | omega)) only [go_sem, q0, q3, q2, b2]; (repeat with_reducible refine aI ?_))
      refine ddraw_mk 10 (by kernel_rfl) ?_
      (simp (disch := first | decide | omega | (simp only [nx]; first | done | omega)) only [go_sem, q0, q3, q2, b2, w0, hk, Nat.zero_add, hcs, m1, m2, b3]; (repeat with_reducible refine aI ?_))
      rw [winOff_lt (by omega)]
      have hq0 : (packH (l.take (i + 2 + 0))).length = i + 1 := by rw [Nat.add_zero, hq, List.length_take]; omega
      have hk : S.ob k = some (.box 44 (flat ((curH l (i + 2 + 0)).map encH) ++ zs)) := by rw [Nat.add_zero, curH_same hlt1 he.symm, curH_none hp]; exact hk
      (refine dloop_var (fun t => List.contains [3, 5, 29, 30, 31, 32, 33, 34, 35, 36, 37, 38, 39, 40, 41, 42, 43, 44, 45, 46, 47, 48, 49, 50, 51, 52, 53] t) (by kernel_rfl) ?_ (l.length - (i + 2)) (k) (fun ij => .box 44 (flat ((curH l (i + 2 + ij)).map encH) ++ zs)) ?_ (fun ij f => ij ≤ l.length - (i + 2) ∧ f 3 = .v (.int .i64 (((packH (l.take (i + 2 + ij))).length : Nat))) ∧ f 5 = .v (.int .i64 ((ij + 1 : Nat))) ∧ ((packH (l.take (i + 2 + ij))).length ≤ i + 1 + ij)) ?_ ?_; (exact (by (repeat' first | assumption | refine St.WF.leave ?_ _ | refine St.WF.add ?_ _ | refine St.WF.set ?_ ?_ _ | refine St.WF.grow ?_ _ _ _ | refine St.WF.keep ?_ ?_ | (first | omega | (simp only [RowOk.lo, nx]; first | done | omega))))); (exact (by (first | (first | (simp (disch := first | decide | omega | (simp only [nx]; first | done | omega)) only [go_sem]; first | done | rfl) | rfl) | (first | (simp (disch := first | decide | omega | (simp only [nx]; first | done | omega)) only [go_sem, q3, hq0, hk]; first | done | rfl) | rfl)))); (exact ⟨(by omega), (by (first | (simp (disch := first | decide | omega | (simp only [nx]; first | done | omega)) only [go_sem, q3, hq0, hk]; first | done | rfl) | rfl)), (by (first | (simp (disch := first | decide | omega | (simp only [nx]; first | done | omega)) only [go_sem, q3, hq0, hk]; first | done | rfl) | rfl)), (by omega)⟩); intro ij gj tnj hnj hTj hgj hIj; obtain ⟨lej, q3j, q5j, hpj⟩ := hIj; have q0j := hgj 0 rfl; have q2j := hgj 2 rfl; have q4j := hgj 4 rfl; simp (disch := first | decide | omega | (simp only [nx]; first | done | omega)) only [go_sem, q3, hq0, hk] at q0j q2j q4j; clear hgj; have hnj' := hnj; try simp only [add_next, set_next, grow_next, leave_next, drop_next] at hnj')
      by_cases hlt2 : i + 2 + ij < l.length
      · have b4 : decide (((ij + 1 : Nat) : Int) < ((l.length - (i + 1) : Nat) : Int)) = true := by simp; omega
        have w2 : IntKind.i64.wrap (((ij + 1 : Nat) : Int) - 1) = ((ij : Nat) : Int) := by rw [IntKind.wrap_i64]; omega
        have w3 : IntKind.i64.wrap (((ij + 1 : Nat) : Int) + 1) = ((ij + 1 + 1 : Nat) : Int) := IntWalk.i64_in _ ⟨by omega, by omega⟩
        have hcl := curH_len l (i + 2 + ij)
        have hcs2 : (flat ((curH l (i + 2 + ij)).map encH) ++ zs).length = c * 32 := by
          have := ho.ln
          simp only [List.length_append, flatHs_len, hcl] at this ⊢
          exact this
        have m3 := hs_at (l := curH l (i + 2 + ij)) (zs := zs) (by omega : i + 2 + ij < _)
        have m4 := hs_at (l := curH l (i + 2 + ij)) (zs := zs) (by omega : i + 1 + ij < _)
        rw [curH_at l _ _ (by omega) (by omega)] at m3 m4
        have x3 : (i + 1) * 32 + (ij + 1) * 32 = (i + 2 + ij) * 32 := by omega
        have x4 : (i + 1) * 32 + ij * 32 = (i + 1 + ij) * 32 := by omega
        (simp (disch := first | decide | omega | (simp only [nx]; first | done | omega)) only [go_sem, q0j, q3j, q4j, q5j, b4]; (repeat with_reducible refine aI ?_))
        refine ddraw_mk 10 (by kernel_rfl) ?_
        (simp (disch := first | decide | omega | (simp only [nx]; first | done | omega)) only [go_sem, q0j, q3j, q4j, q5j, b4, w2, Nat.zero_add, hcs2, x3, x4, m3, m4]; (repeat with_reducible refine aI ?_))
        have y2 : i + 2 + (ij + 1) = i + 1 + ij + 2 := by omega
        have y1 : i + 2 + ij = i + 1 + ij + 1 := by omega
        have hlt3 : i + 1 + ij + 1 < l.length := by omega
        have hpP : (packH (l.take (i + 2 + ij))).length < l.length := by omega
        by_cases he2 : l[i + 2 + ij] = l[i + 1 + ij]
        · have b5 : (!decide (l[i + 2 + ij] = l[i + 1 + ij])) = false := by simp [he2]
          (simp (disch := first | decide | omega | (simp only [nx]; first | done | omega)) only [go_sem, b5, q5j, w3]; (repeat with_reducible refine aI ?_))
          have he3 : l[i + 1 + ij] = l[i + 1 + ij + 1] := by rw [← he2]; congr 1
          have e1 : packH (l.take (i + 2 + (ij + 1))) = packH (l.take (i + 2 + ij)) := by rw [y2, y1, packH_take l _ hlt3, if_pos he3]
          have e2 : curH l (i + 2 + (ij + 1)) = curH l (i + 2 + ij) := by unfold curH; rw [e1]
          refine ⟨by omega, ?_, by omega, ?_, ?_, by rw [e1]; omega⟩
          · show (St.set _ k (Ob.box _ (flat ((curH l (i + 2 + (ij + 1))).map encH) ++ zs))).Sub _
            rw [e2]
            exact ⟨hnj, fun _ _ h => h⟩
          · rw [e1]; (first | (simp (disch := first | decide | omega | (simp only [nx]; first | done | omega)) only [go_sem, q3j]; first | done | rfl) | rfl)
          · (first | (simp (disch := first | decide | omega | (simp only [nx]; first | done | omega)) only [go_sem, w3]; first | done | rfl) | rfl)
        · have b5 : (!decide (l[i + 2 + ij] = l[i + 1 + ij])) = true := by simp [he2]
          have w4 : IntKind.i64.wrap (((packH (l.take (i + 2 + ij))).length : Int) + 1) = (((packH (l.take (i + 2 + ij))).length + 1 : Nat) : Int) := IntWalk.i64_in _ ⟨by omega, by omega⟩
          have lw := l[i + 2 + ij].2
          (simp (disch := first | decide | omega | (simp only [nx]; first | done | omega)) only [go_sem, b5, q0, q0j, q3j, q4j, q5j, Nat.zero_add, hcs2, x3, m3, w3, w4, hcl, lw]; (repeat with_reducible refine aI ?_))
          have he3 : ¬ l[i + 1 + ij] = l[i + 1 + ij + 1] := fun h => he2 (by rw [h]; congr 1)
          have e1 : (packH (l.take (i + 2 + (ij + 1)))).length = (packH (l.take (i + 2 + ij))).length + 1 := by rw [y2, y1, packH_take l _ hlt3, if_neg he3, List.length_append]; rfl
          have e2 : curH l (i + 2 + (ij + 1)) = (curH l (i + 2 + ij)).set (packH (l.take (i + 2 + ij))).length l[i + 2 + ij] := by
            have := curH_new hlt3 he3 (by rw [← y1]; exact hpP)
            have e6 : l[i + 1 + ij + 1] = l[i + 2 + ij] := by congr 1; omega
            rw [e6, ← y1, ← y2] at this
            exact this
          refine ⟨by omega, ?_, by omega, ?_, ?_, by omega⟩
          · show (St.set _ k (Ob.box _ (flat ((curH l (i + 2 + (ij + 1))).map encH) ++ zs))).Sub _
            have key := splice_flat' (es := (curH l (i + 2 + ij)).map encH) (zs := zs) (z := 32) (i := (packH (l.take (i + 2 + ij))).length) (y := encH l[i + 2 + ij]) (by rw [List.length_map]; omega) (wHs _) (width_encH _)
            rw [cells_encH] at key
            rw [key, e2, List.map_set]
            exact St.Sub.upd hnj rfl (St.Sub.refl _)
          · rw [e1]; (first | (simp (disch := first | decide | omega | (simp only [nx]; first | done | omega)) only [go_sem, q3j]; first | done | rfl) | rfl)
          · (first | (simp (disch := first | decide | omega | (simp only [nx]; first | done | omega)) only [go_sem, w3]; first | done | rfl) | rfl)
      · have b4 : decide (((ij + 1 : Nat) : Int) < ((l.length - (i + 1) : Nat) : Int)) = false := by simp; omega
        (simp (disch := first | decide | omega | (simp only [nx]; first | done | omega)) only [go_sem, q0, q0j, q3j, q4j, q5j, b4]; (repeat with_reducible refine aI ?_))
        have hie : i + 2 + ij = l.length := by omega
        have hpe : packH (l.take (i + 2 + ij)) = packH l := by rw [hie, List.take_length]
        have hcl := curH_len l (i + 2 + ij)
        have hcs2 : (flat ((curH l (i + 2 + ij)).map encH) ++ zs).length = c * 32 := by
          have := ho.ln
          simp only [List.length_append, flatHs_len, hcl] at this ⊢
          exact this
        have hpl := packH_len l
        have hmul : (l.length - (packH l).length) * 32 + (packH l).length * 32 = l.length * 32 := by rw [← Nat.add_mul]; congr 1; omega
        have hcc := hcs2
        rw [List.length_append, flatHs_len, hcl] at hcc
        rw [hpe] at hpj ⊢
        rw [winOff_lt (by omega), Nat.zero_add]
        refine dclear_win elHs zeHs zoHs (bt := 44) (cs := flat ((curH l (i + 2 + ij)).map encH) ++ zs) (by (first | (simp (disch := first | decide | omega | (simp only [nx]; first | done | omega)) only [go_sem]; first | done | rfl) | rfl)) (by rw [szHs, hcs2]; omega) fun z2 hz2 => ?_
        rw [szHs] at hz2
        have e5 : flat ((curH l (i + 2 + ij)).map encH) = flat ((packH l).map encH) ++ flat ((l.drop (packH l).length).map encH) := by rw [curH, hpe, List.map_append, flat_append]
        rw [e5, List.append_assoc, splice_at (by rw [flatHs_len])]
        (simp (disch := first | decide | omega | (simp only [nx]; first | done | omega)) only [go_sem, q0, q0j, q3j, hpe, winOff_zero]; (repeat with_reducible refine aI ?_))
        refine ⟨z2 ++ List.drop z2.length (flat (List.map encH (List.drop (packH l).length l)) ++ zs), ⟨?_, ?_, ?_⟩, by omega, ?_⟩
        · rw [ownOb_box (by omega)]
          simp only [St.set, if_true, List.append_assoc]
        · have h3 := flatHs_len (l.drop (packH l).length)
          rw [List.length_drop] at h3
          simp only [List.length_append, List.length_drop, flatHs_len] at hcc ⊢
          omega
        · show k < tnj
          omega
        · intro j o hj h
          simp only [St.set, if_neg hj]
          exact h
    · have b3 : decide (l[i + 1] = l[i]) = false := decide_eq_false he
      (simp (disch := first | decide | omega | (simp only [nx]; first | done | omega)) only [go_sem, q0, q3, q2, b2]; (repeat with_reducible refine aI ?_))
      refine ddraw_mk 10 (by kernel_rfl) ?_
      (simp (disch := first | decide | omega | (simp only [nx]; first | done | omega)) only [go_sem, q0, q3, q2, b2, w0, hk, Nat.zero_add, hcs, m1, m2, b3, w1]; (repeat with_reducible refine aI ?_))
      (refine ⟨by omega, (by (repeat' first | assumption | exact St.Sub.refl _ | exact RowOk.sub (by assumption) (by assumption) | refine St.Sub.trans ?_ (RowOk.sub (by assumption) (by assumption)) | refine St.Sub.add ?_ ?_ _ | refine St.Sub.set ?_ ?_ ?_ _ | refine St.Sub.keep ?_ ?_ | refine St.WF.leave ?_ _ | refine St.WF.add ?_ _ | refine St.WF.set ?_ ?_ _ | refine St.WF.grow ?_ _ _ _ | refine St.WF.keep ?_ ?_ | (first | omega | (simp only [RowOk.lo, nx]; first | done | omega)))), ?_⟩; refine ⟨by omega, ?_, ?_, ?_⟩; all_goals (try (first | (simp (disch := first | decide | omega | (simp only [nx]; first | done | omega)) only [go_sem, w1, q2]; first | done | rfl) | rfl)))
      rw [packH_take l i hlt1, if_neg (fun h => he h.symm), hp, ← List.take_succ_eq_append_getElem hlt1]
  · have b2 : decide (((i + 1 : Nat) : Int) < (l.length : Int)) = false := by simp; omega
    (simp (disch := first | decide | omega | (simp only [nx]; first | done | omega)) only [go_sem, q0, q3, q2, b2]; (repeat with_reducible refine aI ?_))
    have hp' : packH l = l := by
      have h3 : l.length ≤ i + 1 := by omega
      rw [List.take_of_length_le h3] at hp
      exact hp
    rw [hp']
    exact ⟨zs, rfl, ⟨ho.ob, ho.ln, by show k < tn; omega⟩, by omega, fun _ _ _ h => h⟩
end
end Go.Proofs.Ytonncfminojejaa

namespace Go.Proofs.Ytonncfminojejaa
open Go.RowKit Go.Sort Go.Shelf
def sortHsL_ren : Go.Shelf.Ren := ⟨fun | 6 => 48 | 15 => 64 | 14 => 63 | 28 => 78 | 29 => 79 | 20 => 70 | 21 => 71 | 22 => 72 | 23 => 73 | 24 => 74 | 25 => 75 | 26 => 76 | 27 => 77 | 46 => 82 | 47 => 83 | 48 => 84 | 49 => 85 | 50 => 86 | 57 => 88 | n => n, fun | 22 => 23 | 24 => 44 | 25 => 93 | 3 => 3 | 39 => 90 | 0 => 0 | 53 => 125 | 55 => 58 | 4 => 4 | 46 => 118 | 45 => 117 | 50 => 122 | 5 => 5 | 9 => 9 | 66 => 129 | 70 => 133 | 76 => 135 | 77 => 136 | n => n, fun | n => n⟩
theorem sortHsL : Go.Proofs.SlLaysF0.n6 Try.prog sortHsL_ren := {
  mixed := by kernel_rfl
  f6 := ⟨Try.f48.name, by decide, Try.func48.trans (congrArg some (by kernel_rfl))⟩
  f14 := ⟨Try.f63.name, by decide, Try.func63.trans (congrArg some (by kernel_rfl))⟩
  f15 := Try.func64.trans (congrArg some (by kernel_rfl))
  f20 := ⟨Try.f70.name, by decide, Try.func70.trans (congrArg some (by kernel_rfl))⟩
  f21 := ⟨Try.f71.name, by decide, Try.func71.trans (congrArg some (by kernel_rfl))⟩
  f22 := ⟨Try.f72.name, by decide, Try.func72.trans (congrArg some (by kernel_rfl))⟩
  f23 := ⟨Try.f73.name, by decide, Try.func73.trans (congrArg some (by kernel_rfl))⟩
  f24 := ⟨Try.f74.name, by decide, Try.func74.trans (congrArg some (by kernel_rfl))⟩
  f25 := ⟨Try.f75.name, by decide, Try.func75.trans (congrArg some (by kernel_rfl))⟩
  f26 := ⟨Try.f76.name, by decide, Try.func76.trans (congrArg some (by kernel_rfl))⟩
  f27 := ⟨Try.f77.name, by decide, Try.func77.trans (congrArg some (by kernel_rfl))⟩
  f28 := Try.func78.trans (congrArg some (by kernel_rfl))
  f29 := Try.func79.trans (congrArg some (by kernel_rfl))
  f46 := ⟨Try.f82.name, by decide, Try.func82.trans (congrArg some (by kernel_rfl))⟩
  f47 := Try.func83.trans (congrArg some (by kernel_rfl))
  f48 := Try.func84.trans (congrArg some (by kernel_rfl))
  f49 := ⟨Try.f85.name, by decide, Try.func85.trans (congrArg some (by kernel_rfl))⟩
  f50 := ⟨Try.f86.name, by decide, Try.func86.trans (congrArg some (by kernel_rfl))⟩
  f57 := ⟨Try.f88.name, by decide, Try.func88.trans (congrArg some (by kernel_rfl))⟩
  t0 := Try.underlying0
  a0 := Try.isAgg0
  z0 := Try.sizeOf0
  v0 := Try.zeroValue0
  t3 := Try.underlying3
  a3 := Try.isAgg3
  z3 := Try.sizeOf3
  v3 := Try.zeroValue3
  t4 := Try.underlying4
  a4 := Try.isAgg4
  z4 := Try.sizeOf4
  v4 := Try.zeroValue4
  t5 := Try.underlying5
  a5 := Try.isAgg5
  z5 := Try.sizeOf5
  v5 := Try.zeroValue5
  t9 := Try.underlying9
  a9 := Try.isAgg9
  z9 := Try.sizeOf9
  v9 := Try.zeroValue9
  t22 := Try.underlying23
  a22 := Try.isAgg23
  z22 := Try.sizeOf23
  v22 := Try.zeroValue23
  t25 := Try.underlying93
  a25 := Try.isAgg93
  z25 := Try.sizeOf93
  v25 := Try.zeroValue93
  t39 := Try.underlying90
  a39 := Try.isAgg90
  z39 := Try.sizeOf90
  v39 := Try.zeroValue90
  t45 := Try.underlying117
  a45 := Try.isAgg117
  z45 := Try.sizeOf117
  v45 := Try.zeroValue117
  t46 := Try.underlying118
  a46 := Try.isAgg118
  z46 := Try.sizeOf118
  v46 := Try.zeroValue118
  t50 := Try.underlying122
  a50 := Try.isAgg122
  z50 := Try.sizeOf122
  v50 := Try.zeroValue122
  t53 := Try.underlying125
  a53 := Try.isAgg125
  z53 := Try.sizeOf125
  v53 := Try.zeroValue125
  t55 := Try.underlying58
  a55 := Try.isAgg58
  z55 := Try.sizeOf58
  v55 := Try.zeroValue58
  t66 := Try.underlying129
  a66 := Try.isAgg129
  z66 := Try.sizeOf129
  v66 := Try.zeroValue129
  t70 := Try.underlying133
  a70 := Try.isAgg133
  z70 := Try.sizeOf133
  v70 := Try.zeroValue133
  t76 := Try.underlying135
  a76 := Try.isAgg135
  z76 := Try.sizeOf135
  v76 := Try.zeroValue135
  t77 := Try.underlying136
  a77 := Try.isAgg136
  z77 := Try.sizeOf136
  v77 := Try.zeroValue136 }
instance : Inhabited H32 := ⟨⟨List.replicate 32 0, rfl⟩⟩
theorem isAgg_hash : ∀ w, (isAgg 44).run Try.prog w = .ok true w := fun w => by kernel_rfl
theorem sizeOf_hash : ∀ w, (Go.sizeOf 44).run Try.prog w = .ok 32 w := fun w => by kernel_rfl
def hsVs (h : H32) : List Value := h.1.map bV
theorem hsVs_len (h : H32) : (hsVs h).length = 32 := by simp [hsVs, h.2]
theorem hsVs_one (h : H32) : ∀ v ∈ hsVs h, v.oneCell' = true := fun v hv => by
  obtain ⟨b, _, rfl⟩ := List.mem_map.1 hv
  rfl
theorem encH_hv (h : H32) : encH h = .agg ((hsVs h).map D.v) := by
  simp only [encH, hsVs, List.map_map]
  rfl
section
set_option maxRecDepth 200000
set_option maxHeartbeats 4000000
theorem sortCmp_d (a b : H32) : DPure Try.prog 49 [encH a, encH b] (.v (.int .i64 (cmpH a b))) := by
  refine dpure_of_dwp mixed Try.func49 rfl (fun _ _ => by kernel_rfl) (rs := [.tmp 4]) rfl (by kernel_rfl) trivial (fun S hS => ?_)
  (simp (disch := first | decide | omega | (simp only [nx]; first | done | omega)) only [go_sem]; (repeat with_reducible refine aI ?_))
  refine ddraw_mk 4 (by kernel_rfl) ?_
  (simp (disch := first | decide | omega | (simp only [nx]; first | done | omega)) only [go_sem]; (repeat with_reducible refine aI ?_))
  refine dqgo_at (cmpH_st a b (winB_hash (t := 44) a ?_) (winB_hash (t := 44) b ?_)) ?_
  · (first | (simp (disch := first | decide | omega | (simp only [nx]; first | done | omega)) only [go_sem]; first | done | rfl) | rfl)
  · (first | (simp (disch := first | decide | omega | (simp only [nx]; first | done | omega)) only [go_sem]; first | done | rfl) | rfl)
  (simp (disch := first | decide | omega | (simp only [nx]; first | done | omega)) only [go_sem]; (repeat with_reducible refine aI ?_))
  refine ⟨?_, (by (repeat' first | assumption | exact St.Sub.refl _ | exact RowOk.sub (by assumption) (by assumption) | refine St.Sub.trans ?_ (RowOk.sub (by assumption) (by assumption)) | refine St.Sub.add ?_ ?_ _ | refine St.Sub.set ?_ ?_ ?_ _ | refine St.Sub.keep ?_ ?_ | refine St.WF.leave ?_ _ | refine St.WF.add ?_ _ | refine St.WF.set ?_ ?_ _ | refine St.WF.grow ?_ _ _ _ | refine St.WF.keep ?_ ?_ | (first | omega | (simp only [RowOk.lo, nx]; first | done | omega))))⟩
  rfl
variable {S : St}
theorem sort0H_d (k c : Nat) : DPure Try.prog 48 [.win k 0 0 c, .fn (.func 49) [] []] (.tup []) := by
  refine dpure_of_dwp mixed Try.func48 rfl (fun _ _ => by kernel_rfl) (rs := []) rfl (by kernel_rfl) trivial (fun S hS => ?_)
  have hcv : pureRun Try.prog (convert 3 90 (.int .i64 0)) = some (.int .u64 0) := by kernel_rfl
  (simp (disch := first | decide | omega | (simp only [nx]; first | done | omega)) only [go_sem, hcv]; (repeat with_reducible refine aI ?_))
  refine DCalls.of_pure (bitsLen_d sortHsL (by intro _ _; kernel_rfl) 0 (by omega)) ?_
  (simp (disch := first | decide | omega | (simp only [nx]; first | done | omega)) only [go_sem]; (repeat with_reducible refine aI ?_))
  refine dcalls_inline mixed Try.func63 rfl (fun _ _ => by kernel_rfl) (rs := []) rfl (by kernel_rfl) (fun hS => ?_)
  (simp (disch := first | decide | omega | (simp only [nx]; first | done | omega)) only [go_sem]; (repeat with_reducible refine aI ?_))
  refine dloop_fuel 1 (by (repeat' first | assumption | refine St.WF.leave ?_ _ | refine St.WF.add ?_ _ | refine St.WF.set ?_ ?_ _ | refine St.WF.grow ?_ _ _ _ | refine St.WF.keep ?_ ?_ | (first | omega | (simp only [RowOk.lo, nx]; first | done | omega)))) (by kernel_rfl) ?_
  rw [loopN_eq]
  have b1 : decide (IntKind.i64.wrap (0 - 0) ≤ 12) = true := by decide
  have b2 : decide ((1 : Int) < 0) = false := by decide
  (simp (disch := first | decide | omega | (simp only [nx]; first | done | omega)) only [go_sem, b1]; (repeat with_reducible refine aI ?_))
  refine dcalls_inline mixed Try.func70 rfl (fun _ _ => by kernel_rfl) (rs := []) rfl (by kernel_rfl) (fun hS => ?_)
  have b3 : IntKind.i64.wrap (0 + 1) = 1 := by decide
  (simp (disch := first | decide | omega | (simp only [nx]; first | done | omega)) only [go_sem, b3]; (repeat with_reducible refine aI ?_))
  refine dloop_fuel 1 (by (repeat' first | assumption | refine St.WF.leave ?_ _ | refine St.WF.add ?_ _ | refine St.WF.set ?_ ?_ _ | refine St.WF.grow ?_ _ _ _ | refine St.WF.keep ?_ ?_ | (first | omega | (simp only [RowOk.lo, nx]; first | done | omega)))) (by kernel_rfl) ?_
  rw [loopN_eq]
  (simp (disch := first | decide | omega | (simp only [nx]; first | done | omega)) only [go_sem, b2]; (repeat with_reducible refine aI ?_))
  refine ⟨?_, (by (repeat' first | assumption | exact St.Sub.refl _ | exact RowOk.sub (by assumption) (by assumption) | refine St.Sub.trans ?_ (RowOk.sub (by assumption) (by assumption)) | refine St.Sub.add ?_ ?_ _ | refine St.Sub.set ?_ ?_ ?_ _ | refine St.Sub.keep ?_ ?_ | refine St.WF.leave ?_ _ | refine St.WF.add ?_ _ | refine St.WF.set ?_ ?_ _ | refine St.WF.grow ?_ _ _ _ | refine St.WF.keep ?_ ?_ | (first | omega | (simp only [RowOk.lo, nx]; first | done | omega))))⟩
  rfl
theorem sortHs_w {k c : Nat} {zs : List D} (l : List H32) (ho : OwnH S k c zs l) (hn : l.length ≤ 1000000) :
    DCalls Try.prog 48 [.win k 0 l.length c, .fn (.func 49) [] []] S (fun d T => d = .tup [] ∧ ∃ l' : List H32, l'.Perm l ∧ l'.Pairwise (fun a b => ltOf cmpH b a = false) ∧ T = S.set k (ownOb 44 (l'.map encH) zs c)) := by
  rcases Nat.eq_zero_or_pos c with h0 | h0
  · subst h0
    have hl : l = [] := List.eq_nil_of_length_eq_zero (by have := ho.le; omega)
    subst hl
    refine (sort0H_d k 0 S).mono ?_
    rintro d T ⟨rfl, rfl⟩
    exact ⟨rfl, [], .nil, .nil, (ob_self ho.ob).symm⟩
  · have hk := ho.ob
    rw [ownOb_box h0] at hk
    have key := dsort (S := S) (k := k) (c := c) (A := []) (B := zs) (t := 44) (l := l) rfl sortHsL isAgg_hash sizeOf_hash (by intro _ _; kernel_rfl) hsVs_len hsVs_one encH_hv swo_cmpH (g := 49) (by intro _ _; kernel_rfl) sortCmp_d hk hn
    refine DCalls.mono key ?_
    rintro d T ⟨rfl, l', h1, h2, rfl⟩
    exact ⟨rfl, l', h1, h2, by rw [ownOb_box h0]; rfl⟩
theorem hsort_w {S : St} (own : Own) (l : List H32) (hn : l.length ≤ 1000000) :
    DCalls Try.prog 31 [.sl own (l.map encH)] S fun d T => ∃ k c zs, d = .win k 0 (sortH l).length c ∧ S.next ≤ k ∧ OwnH T k c zs (sortH l) ∧ S.Sub T := by
  refine dcalls_inline mixed Try.func31 rfl (fun _ _ => by kernel_rfl) (rs := [.tmp 2]) rfl (by kernel_rfl) (fun hS => ?_)
  (simp (disch := first | decide | omega | (simp only [nx]; first | done | omega)) only [go_sem]; (repeat with_reducible refine aI ?_))
  refine dapp_nil elHs (dappend_fresh elHs (by rw [elHs]; rfl) zeHs zoHs (es2 := l.map encH) (srcOk_sl (by rw [szHs]; exact wHs l)) rfl (by rw [List.length_map]; omega) (by rw [byHs, List.length_map]; omega) fun c zs h1 h2 => ?_)
  rw [szHs] at h2
  (simp (disch := first | decide | omega | (simp only [nx]; first | done | omega)) only [go_sem]; (repeat with_reducible refine aI ?_))
  refine (sortHs_w (S := S.add (ownOb 44 (l.map encH) zs c)) l ⟨by (first | (simp (disch := first | decide | omega | (simp only [nx]; first | done | omega)) only [go_sem]; first | done | rfl) | rfl), h2, by show S.next < S.next + 1; omega⟩ hn).mono ?_
  rintro d T ⟨rfl, l', hp, hs, rfl⟩
  (simp (disch := first | decide | omega | (simp only [nx]; first | done | omega)) only [go_sem]; (repeat with_reducible refine aI ?_))
  have hl := hp.length_eq
  have hpl := packH_sort hp hs
  have key := compactH_w (S := (S.add (ownOb 44 (l.map encH) zs c)).set S.next (ownOb 44 (l'.map encH) zs c)) (k := S.next) (c := c) (zs := zs) l' ⟨by (first | (simp (disch := first | decide | omega | (simp only [nx]; first | done | omega)) only [go_sem]; first | done | rfl) | rfl), by simp only [List.length_append, flatHs_len] at h2 ⊢; omega, by show S.next < S.next + 1; omega⟩ (by omega)
  rw [hl, hpl] at key
  refine key.mono ?_
  rintro d T ⟨zs', rfl, ho, hnx, hf⟩
  (simp (disch := first | decide | omega | (simp only [nx]; first | done | omega)) only [go_sem]; (repeat with_reducible refine aI ?_))
  refine ⟨S.next, c, zs', rfl, Nat.le_refl _, ho, by have : S.next + 1 ≤ T.next := hnx; omega, fun j o h => ?_⟩
  have := hS.lt h
  have hj : j ≠ S.next := by omega
  refine hf j o hj ?_
  (first | (simp (disch := first | decide | omega | (simp only [nx]; first | done | omega)) only [go_sem, hj, h]; first | done | rfl) | rfl)
theorem hsort_d (own : Own) (l : List H32) (hn : l.length ≤ 1000000) : DPure Try.prog 31 [.sl own (l.map encH)] (.sl .no ((sortH l).map encH)) := dpure_ownH fun _ _ => hsort_w own l hn
end
end Go.Proofs.Ytonncfminojejaa

namespace Go.Proofs.Ytonncfminojejaa
open Go.RowKit
def ixOf {α : Type} (p : α → Bool) (l : List α) : Int := if l.any p then ((l.findIdx p : Nat) : Int) else -1
theorem ixOf_at {α : Type} {p : α → Bool} {l : List α} {i : Nat} (h : i < l.length) (hp : p l[i] = true) (hs : ∀ j (h : j < l.length), j < i → p l[j] = false) : ixOf p l = (i : Int) := by
  have h1 : l.any p = true := List.any_eq_true.2 ⟨l[i], List.getElem_mem _, hp⟩
  have h2 : l.findIdx p = i := by
    rw [List.findIdx_eq h]
    exact ⟨hp, fun j hj => hs j (by omega) hj⟩
  rw [ixOf, if_pos h1, h2]
theorem ixOf_none {α : Type} {p : α → Bool} {l : List α} (hs : ∀ j (h : j < l.length), p l[j] = false) : ixOf p l = -1 := by
  have h1 : l.any p = false := List.any_eq_false.2 fun x hx => by
    obtain ⟨i, hi, rfl⟩ := List.getElem_of_mem hx
    rw [hs i hi]; simp
  rw [ixOf, if_neg (by rw [h1]; simp)]
theorem ixOf_any {α : Type} (p : α → Bool) (l : List α) : decide (ixOf p l ≥ 0) = l.any p := by
  unfold ixOf
  cases l.any p <;> simp
section
set_option maxRecDepth 200000
set_option maxHeartbeats 4000000
end
end Go.Proofs.Ytonncfminojejaa

namespace Go.Proofs.Ytonncfminojejaa
open Go.RowKit Go.Extern.Stop Go.Stop Go.Extern
abbrev erD (n : Int) : D := .ifc 51 (.v (.int .i64 n))
section
variable {P : Program} {S : St} {K : D → St → Prop}
end
section
variable {S : St} {K : D → St → Prop} {u : D}
end
section
variable {S : St} {K : D → St → Prop}
end

end Go.Proofs.Ytonncfminojejaa

namespace Go.Proofs.Ytonncfminojejaa
open Go.RowKit
section
set_option maxRecDepth 200000
set_option maxHeartbeats 4000000
theorem closed_bB (l : List UInt8) : (D.sl .no (l.map bD)).closed := by
  simp only [D.closed, D.all, Own.all, true_and]
  refine allL_iff.2 fun d hd => ?_
  obtain ⟨b, _, rfl⟩ := List.mem_map.1 hd
  simp [bD, D.all]
theorem frz_bB (l : List UInt8) : frzL (l.map bD) = l.map bD := by simp [frzL_map, bD, D.frz, Function.comp_def]
theorem elBy : elT Try.prog 29 = some 5 := by kernel_rfl
theorem szBy : szOf Try.prog 5 = 1 := by kernel_rfl
theorem byBy : bytesOf Try.prog 5 = 1 := by kernel_rfl
theorem zeBy : zeroT Try.prog 5 = true := by kernel_rfl
theorem wBy (l : List UInt8) : ∀ d ∈ l.map bD, d.width = 1 := fun d hd => by obtain ⟨x, _, rfl⟩ := List.mem_map.1 hd; rfl
end
end Go.Proofs.Ytonncfminojejaa

namespace Go.Proofs.Ytonncfminojejaa
open Go.RowKit
def encB (l : List UInt8) : D := .sl .no (l.map bD)
section
set_option maxRecDepth 200000
set_option maxHeartbeats 8000000
end
end Go.Proofs.Ytonncfminojejaa

namespace Go.Proofs.Ytonncfminojejaa
open Go.ChangeShapes Go.WideShapes Go.ChangeAt Go.RowKit Go.Deep Go.Joins
section
set_option maxRecDepth 20000
variable {H : Type} {enc : TypeId × Value → H} {w : World}
theorem ess_cell {fuel : Nat} {cs : List Value} {x : DataW H × List MemPlace} (h : DataW.trod enc Try.prog w 0 (fun _ => true) true fuel 24 cs = some x) (hs : Sized Try.prog 24 x.1) :
    ∃ l : List (List UInt8), (∀ b ∈ l, b.length ≤ 140737488351232) ∧ l.length ≤ 140737488351232 ∧ ∃ u, cs = [u] ∧ ∀ (η : Names) (X : Nat → Nat → Prop), (∀ b i, X b i) → Rep Try.prog w η X (.sl .no (l.map encB)) u := by
  obtain ⟨A, c, l, hcs, hlc, hr, hb⟩ := open_rows_trod (P := Try.prog) (α := List UInt8) (size := 1) (bytes := 24) Try.underlying24 (by kernel_rfl) (by omega) (by kernel_rfl) (by omega)
    (fun b o a => a.length ≤ 140737488351232 ∧ ∃ u, w.cell? ⟨b, o, none⟩ = some u ∧ ∀ (η : Names) (X : Nat → Nat → Prop), (∀ b i, X b i) → Rep Try.prog w η X (.sl .no (a.map bD)) u) (fun fuel cs x b o _ hx hsx hlen hcell => by
      obtain ⟨a, _, ha, u, e, hru⟩ := open_cells_trod (P := Try.prog) (fun n : UInt8 => Value.int .u8 (n.toNat : Int)) (fun _ => rfl) (bytes := 1) Try.underlying29 (by kernel_rfl) (by kernel_rfl) (by omega) (fun a => True) (fun fuel u x hx _ => by
        obtain ⟨n, e, _, hw⟩ := DataW.trod_int Try.underlying5 hx
        have hb := bounds_u8 hw
        injection e with e _
        refine ⟨UInt8.ofNat n.toNat, trivial, ?_⟩
        have e2 : (((UInt8.ofNat n.toNat).toNat : Nat) : Int) = n := by
          rw [UInt8.toNat_ofNat_of_lt' (by show n.toNat < 256; omega)]; omega
        rw [e2]; exact e) hx hsx
      subst e
      exact ⟨a, ha, u, hcell 0 u rfl, hru⟩) h hs
  have hbb : l.length ≤ 140737488351232 := by omega
  refine ⟨l, fun a ha => ?_, hbb, _, hcs, fun η X hX => ?_⟩
  · obtain ⟨i, hi, rfl⟩ := List.getElem_of_mem ha
    obtain ⟨b, o, _, _, hf⟩ := hr (by omega)
    exact (hf i _ (List.getElem?_eq_getElem hi)).1
  · simp only [Rep]
    refine ⟨A, c, by rw [List.length_map], by rw [List.length_map]; exact hlc, by rw [List.length_map]; omega, trivial, fun h0 => ?_⟩
    rw [List.length_map] at h0
    obtain ⟨b, o, e, hbl, hf⟩ := hr h0
    refine ⟨b, o, 1, e, by omega, RepE.mk fun i d hd => ?_⟩
    rw [List.getElem?_map] at hd
    cases hi : l[i]? with
    | none => rw [hi] at hd; cases hd
    | some a =>
      rw [hi] at hd
      injection hd with hd
      subst hd
      obtain ⟨_, u, h1, h2⟩ := hf i a hi
      have h3 := h2 η X hX
      exact ⟨by simp only [encB, RepA], fun _ => ⟨rfl, hX _ _, u, h1, by simp only [Rep] at h3; obtain ⟨A', c', rfl, _⟩ := h3; rfl, h3⟩⟩
end
end Go.Proofs.Ytonncfminojejaa

namespace Go.Proofs.Ytonncfminojejaa
open Go.RowKit
def IsU64 (n : Nat) : Prop := n < 18446744073709551616
theorem wrap_u64 (n : Nat) (h : IsU64 n) : IntKind.u64.wrap (n : Int) = n := by
  unfold IsU64 at h
  simp only [IntKind.wrap_u64]
  omega
theorem or80' : ∀ x : Fin 256, bits BinOp.or IntKind.u8 (x.val : Int) 128 = ((x.val % 128 + 128 : Nat) : Int) := by decide +kernel
theorem or80 (k : Nat) : bits BinOp.or IntKind.u8 ((k : Int) % 256) 128 = ((k % 128 + 128 : Nat) : Int) := by
  have h := or80' ⟨k % 256, by omega⟩
  simp only at h
  rw [show ((k : Int) % 256) = ((k % 256 : Nat) : Int) from by omega, h]
  omega
section
variable {P : Program} {t : TypeId} {x y : Operand}
theorem bin_or (k : IntKind) (a b : Int) : dbin P .or t x y (.v (.int k a)) (.v (.int k b)) = some (True, .v (.int k (bits .or k a b))) := by
  simp [dbin, eqGuard, binOp, intBits_or, pureRun_bind, pureRun_pure]
theorem bin_xor (k : IntKind) (a b : Int) : dbin P .xor t x y (.v (.int k a)) (.v (.int k b)) = some (True, .v (.int k (bits .xor k a b))) := by
  simp [dbin, eqGuard, binOp, intBits_xor, pureRun_bind, pureRun_pure]
theorem bin_andNot (k : IntKind) (a b : Int) : dbin P .andNot t x y (.v (.int k a)) (.v (.int k b)) = some (True, .v (.int k (bits .andNot k a b))) := by
  simp [dbin, eqGuard, binOp, intBits_andNot, pureRun_bind, pureRun_pure]
theorem bin_shr7 (a : Nat) : dbin P .shr t x y (.v (.int .u64 a)) (.v (.int .u64 7)) = some (True, .v (.int .u64 ((a / 128 : Nat) : Int))) := by
  simp [dbin, eqGuard, binOp, shift_shr .u64 .u64 (a : Int) 7 (by omega) (by decide), pureRun_bind, pureRun_pure]
theorem bin_shr63 (a : Int) : dbin P .shr t x y (.v (.int .i64 a)) (.v (.int .u64 63)) = some (True, .v (.int .i64 (a / 9223372036854775808))) := by
  simp [dbin, eqGuard, binOp, shift_shr .i64 .u64 a 63 (by omega) (by decide), pureRun_bind, pureRun_pure]
theorem bin_shl1 (a : Int) : dbin P .shl t x y (.v (.int .u64 a)) (.v (.int .u64 1)) = some (True, .v (.int .u64 (IntKind.u64.wrap (a * 2)))) := by
  simp [dbin, eqGuard, binOp, Op.shift, IntKind.bits, pureRun_bind, pureRun_pure]
end
theorem cv_u64u8 (n : Int) : pureRun Try.prog (convert 58 5 (.int .u64 n)) = some (.int .u8 (IntKind.u8.wrap n)) := by kernel_rfl
theorem cv_i64u64 (n : Int) : pureRun Try.prog (convert 3 58 (.int .i64 n)) = some (.int .u64 (IntKind.u64.wrap n)) := by kernel_rfl
theorem cv_u64i64 (n : Int) : pureRun Try.prog (convert 58 3 (.int .u64 n)) = some (.int .i64 (IntKind.i64.wrap n)) := by kernel_rfl
theorem cv_u8u64 (n : Int) : pureRun Try.prog (convert 5 58 (.int .u8 n)) = some (.int .u64 (IntKind.u64.wrap n)) := by kernel_rfl
theorem cv_i64u8 (n : Int) : pureRun Try.prog (convert 3 5 (.int .i64 n)) = some (.int .u8 (IntKind.u8.wrap n)) := by kernel_rfl
theorem u8T_u8 : u8T Try.prog 5 = true := by kernel_rfl
attribute [go_sem] u8T_u8
attribute [go_sem] bin_or bin_xor bin_andNot bin_shr7 bin_shr63 bin_shl1 cv_u64u8 cv_i64u64 cv_u64i64 cv_u8u64 cv_i64u8
def WAt (k : Nat) (bs : List UInt8) (T : St) : Prop := ∃ own, T.ob k = some (.box 53 [.sl own (bs.map bD)]) ∧ ((own = .full ∧ bs = []) ∨ ∃ g, own = .row g ∧ k < g ∧ T.ob g = some (.row 5 bs.length))
structure WFr (k : Nat) (S T : St) : Prop where
  next : S.next ≤ T.next
  ob : ∀ j o, (j < k ∨ (j ≠ k ∧ ∃ t cs, o = .box t cs)) → S.ob j = some o → T.ob j = some o
theorem WFr.box {k : Nat} {S T : St} (h : WFr k S T) (j : Nat) (t : TypeId) (cs : List D) (hj : j ≠ k) (e : S.ob j = some (.box t cs)) : T.ob j = some (.box t cs) := h.ob j _ (.inr ⟨hj, t, cs, rfl⟩) e
theorem WFr.of_keep {k : Nat} {S T : St} (hn : S.next ≤ T.next) (h : ∀ j o, S.ob j = some o → T.ob j = some o) : WFr k S T := ⟨hn, fun j o _ e => h j o e⟩
theorem WFr.refl (k : Nat) (S : St) : WFr k S S := ⟨Nat.le_refl _, fun _ _ _ h => h⟩
theorem WFr.trans {k : Nat} {A B C : St} (h : WFr k A B) (g : WFr k B C) : WFr k A C := ⟨Nat.le_trans h.next g.next, fun j o hj e => g.ob j o hj (h.ob j o hj e)⟩
theorem wd_bD (l : List UInt8) : ∀ d ∈ l.map bD, d.width = szOf Try.prog 5 := by
  intro d hd
  obtain ⟨b, _, rfl⟩ := List.mem_map.1 hd
  exact Eq.trans rfl (by kernel_rfl : 1 = szOf Try.prog 5)
theorem dapp_bytes {S : St} {ty : TypeId} {own own2 : Own} {bs xs : List UInt8} {K : D → St → Prop} (h : (own = .full ∧ bs = []) ∨ ∃ g, own = .row g ∧ S.ob g = some (.row 5 bs.length)) (hl : bs.length + xs.length ≤ 1099511627776)
    (k : K (.sl (.row S.next) ((bs ++ xs).map bD)) (S.grow own 5 (bs.length + xs.length))) : dapp Try.prog S 29 29 ty (.sl own (bs.map bD)) (.sl own2 (xs.map bD)) K := by
  refine dapp_row ?_
  have he : elT Try.prog 29 = some 5 := by kernel_rfl
  have hb : bytesOf Try.prog 5 = 1 := by kernel_rfl
  have hz : zeroT Try.prog 5 = true := by kernel_rfl
  simp only [dappend, he, hz, hb, List.length_map, ← List.map_append, true_and, Option.isSome_some]
  refine ⟨wd_bD bs, wd_bD xs, ?_, by omega, by omega, k⟩
  rcases h with ⟨rfl, rfl⟩ | ⟨g, rfl, h⟩
  · trivial
  · exact h
set_option maxRecDepth 200000 in
set_option maxHeartbeats 4000000 in
theorem raw_w {S : St} {k : Nat} {bs : List UInt8} (own2 : Own) (xs : List UInt8) (hk : k < S.next) (h : WAt k bs S) (hl : bs.length + xs.length ≤ 1099511627776) : DCalls Try.prog 24 [.loc k 0, .sl own2 (xs.map bD)] S fun d T => d = undefD ∧ WAt k (bs ++ xs) T ∧ WFr k S T := by
  obtain ⟨own, h1, h2⟩ := h
  refine dcalls_inline mixed Try.func24 rfl (fun _ _ => by kernel_rfl) (rs := []) rfl (by kernel_rfl) (fun hS => ?_)
  (simp (disch := first | decide | omega | (simp only [nx]; first | done | omega)) only [go_sem, h1]; (repeat with_reducible refine aI ?_))
  have hk2 : (k = S.next) = False := by simp; omega
  rcases h2 with ⟨rfl, rfl⟩ | ⟨g, rfl, hg, h2⟩
  · refine dapp_bytes (.inl ⟨rfl, rfl⟩) (by omega) ?_
    (simp (disch := first | decide | omega | (simp only [nx]; first | done | omega)) only [go_sem, hk2, h1]; (repeat with_reducible refine aI ?_))
    refine ⟨⟨.row S.next, by simp [St.set], .inr ⟨S.next, rfl, by omega, ?_⟩⟩, ⟨by simp [St.set, St.grow, St.leave, St.add], fun j o hj e => ?_⟩⟩
    · simp [St.grow, St.leave, St.add, St.set, Ne.symm (show k ≠ S.next by omega)]
    · have hlt := hS.lt e
      have hj : j ≠ k := by rcases hj with h | h; omega; exact h.1
      simp [St.grow, St.leave, St.add, St.set, hj, show j ≠ S.next by omega, e]
  · have hkg : (k = g) = False := by simp; omega
    refine dapp_bytes (.inr ⟨g, rfl, h2⟩) (by omega) ?_
    (simp (disch := first | decide | omega | (simp only [nx]; first | done | omega)) only [go_sem, hk2, hkg, h1]; (repeat with_reducible refine aI ?_))
    refine ⟨⟨.row S.next, by simp [St.set], .inr ⟨S.next, rfl, by omega, ?_⟩⟩, ⟨by simp [St.set, St.grow, St.leave, St.add, St.drop], fun j o hj e => ?_⟩⟩
    · simp [St.grow, St.leave, St.add, St.set, St.drop, Ne.symm (show k ≠ S.next by omega)]
    · have hlt := hS.lt e
      have hjg : j ≠ g := fun e2 => by
        rcases hj with h | ⟨_, t, cs, rfl⟩
        · omega
        · rw [e2, h2] at e; cases e
      have hj : j ≠ k := by rcases hj with h | h; omega; exact h.1
      simp [St.grow, St.leave, St.add, St.set, St.drop, hj, hjg, show j ≠ S.next by omega, e]
theorem WAt.box {k : Nat} {bs : List UInt8} {S T : St} (h : WAt k bs S) (hn : S.next ≤ T.next) (hS : S.WF) (hb : ∀ j o, S.ob j = some o → T.ob j = some o) : WAt k bs T := by
  obtain ⟨own, h1, h2⟩ := h
  refine ⟨own, hb _ _ h1, h2.imp id fun ⟨g, h3, h4, h5⟩ => ⟨g, h3, h4, hb _ _ h5⟩⟩
theorem add_keep {S : St} (hS : S.WF) (o : Ob) : ∀ j o', S.ob j = some o' → (S.add o).ob j = some o' := by
  intro j o' h
  have hlt := hS.lt h
  simp [St.add, show j ≠ S.next by omega, h]
theorem WAt.add {k : Nat} {bs : List UInt8} {S : St} (h : WAt k bs S) (hS : S.WF) (o : Ob) : WAt k bs (S.add o) := h.box (Nat.le_succ _) hS (add_keep hS o)
theorem WFr.add {k : Nat} {S T : St} (h : WFr k S T) (hT : T.WF) (o : Ob) : WFr k S (T.add o) := h.trans (WFr.of_keep (Nat.le_succ _) (add_keep hT o))
set_option maxRecDepth 200000 in
set_option maxHeartbeats 4000000 in
theorem byte_w {S : St} {k : Nat} {bs : List UInt8} (b : UInt8) (hk : k < S.next) (h : WAt k bs S) (hl : bs.length + 1 ≤ 1099511627776) : DCalls Try.prog 22 [.loc k 0, bD b] S fun d T => d = undefD ∧ WAt k (bs ++ [b]) T ∧ WFr k S T := by
  refine dcalls_inline mixed Try.func22 rfl (fun _ _ => by kernel_rfl) (rs := []) rfl (by kernel_rfl) (fun hS => ?_)
  (simp (disch := first | decide | omega | (simp only [nx]; first | done | omega)) only [go_sem, show bD b = .v (.int .u8 b.toNat) from rfl]; (repeat with_reducible refine aI ?_))
  refine (raw_w .full [b] hk h hl).mono ?_
  rintro _ T ⟨rfl, h1, h2⟩
  (simp (disch := first | decide | omega | (simp only [nx]; first | done | omega)) only [go_sem]; (repeat with_reducible refine aI ?_))
  exact h2
theorem bD1 (n : Nat) (h : n < 256) : [D.v (.int .u8 (n : Int))] = [b8 n].map bD := by
  simp [bD, b8_toNat n h]
theorem wrap_u8 (n : Nat) : IntKind.u8.wrap (n : Int) = (n : Int) % 256 := IntKind.wrap_u8 _
set_option maxRecDepth 200000 in
set_option maxHeartbeats 4000000 in
theorem number_w {S : St} {k : Nat} {bs : List UInt8} (n : Nat) (hn : IsU64 n) (hk : k < S.next) (h : WAt k bs S) (hl : bs.length + 10 ≤ 1099511627776) : DCalls Try.prog 25 [.loc k 0, .v (.int .u64 (n : Int))] S fun d T => d = undefD ∧ WAt k (bs ++ numB n) T ∧ WFr k S T := by
  refine dcalls_inline mixed Try.func25 rfl (fun _ _ => by kernel_rfl) (rs := []) rfl (by kernel_rfl) (fun hS => ?_)
  (simp (disch := first | decide | omega | (simp only [nx]; first | done | omega)) only [go_sem]; (repeat with_reducible refine aI ?_))
  have hnl := numB_length_le n hn
  refine dloop_down (fun t => List.contains [1, 4, 5, 6, 7, 8, 9, 10, 11, 12, 13] t) (by kernel_rfl) hS (fun m g T => ∃ done, done ++ numB m = numB n ∧ IsU64 m ∧ g 1 = .v (.int .u64 (m : Int)) ∧ WAt k (bs ++ done) T ∧ WFr k S T) n ⟨[], rfl, hn, rfl, by rw [List.append_nil]; exact h, WFr.refl k S⟩ ?_
  rintro m g T hT hg ⟨done, hd, hm, q1, hW, hF⟩
  have q0 : g 0 = .loc k 0 := hg 0 rfl
  have hkT : k < T.next := Nat.lt_of_lt_of_le hk hF.next
  have hdl : (bs ++ done).length + 1 ≤ 1099511627776 := by
    have := congrArg List.length hd
    rw [List.length_append] at this
    have := numB_pos m
    rw [List.length_append]; omega
  by_cases hlt : m < 128
  · have b1 : decide ((128 : Int) ≤ (m : Int)) = false := by simp; omega
    have w8 : IntKind.u8.wrap (m : Int) = (m : Int) := by rw [wrap_u8]; omega
    (simp (disch := first | decide | omega | (simp only [nx]; first | done | omega)) only [go_sem, q0, q1, b1, w8]; (repeat with_reducible refine aI ?_))
    rw [bD1 m (by omega)]
    refine (raw_w .full [b8 m] hkT hW hdl).mono ?_
    rintro _ T1 ⟨rfl, h1, h2⟩
    (simp (disch := first | decide | omega | (simp only [nx]; first | done | omega)) only [go_sem]; (repeat with_reducible refine aI ?_))
    refine ⟨?_, hF.trans h2⟩
    rw [← hd, numB_lt m hlt, ← List.append_assoc]; exact h1
  · have b1 : decide ((128 : Int) ≤ (m : Int)) = true := by simp; omega
    (simp (disch := first | decide | omega | (simp only [nx]; first | done | omega)) only [go_sem, q0, q1, b1, wrap_u8, or80]; (repeat with_reducible refine aI ?_))
    rw [bD1 (m % 128 + 128) (by omega)]
    refine (raw_w .full [b8 (m % 128 + 128)] hkT hW hdl).mono ?_
    rintro _ T1 ⟨rfl, h1, h2⟩
    (simp (disch := first | decide | omega | (simp only [nx]; first | done | omega)) only [go_sem, q0, q1]; (repeat with_reducible refine aI ?_))
    refine ⟨m / 128, T1.ob, by omega, fun _ _ h => h, done ++ [b8 (m % 128 + 128)], ?_, by unfold IsU64 at *; omega, ?_, by rw [← List.append_assoc]; exact h1, hF.trans h2⟩
    · rw [List.append_assoc, ← hd, numB_ge m hlt]; rfl
    · (first | (simp (disch := first | decide | omega | (simp only [nx]; first | done | omega)) only [go_sem]; first | done | rfl) | rfl)
set_option maxRecDepth 200000 in
set_option maxHeartbeats 4000000 in
theorem bytes_w {S : St} {k : Nat} {bs : List UInt8} (own2 : Own) (xs : List UInt8) (hk : k < S.next) (h : WAt k bs S) (hl : bs.length + xs.length + 10 ≤ 1099511627776) : DCalls Try.prog 26 [.loc k 0, .sl own2 (xs.map bD)] S fun d T => d = undefD ∧ WAt k (bs ++ (numB xs.length ++ xs)) T ∧ WFr k S T := by
  refine dcalls_inline mixed Try.func26 rfl (fun _ _ => by kernel_rfl) (rs := []) rfl (by kernel_rfl) (fun hS => ?_)
  have hu : IsU64 xs.length := by unfold IsU64; omega
  (simp (disch := first | decide | omega | (simp only [nx]; first | done | omega)) only [go_sem, wrap_u64 xs.length hu]; (repeat with_reducible refine aI ?_))
  refine (number_w xs.length hu hk h (by omega)).mono ?_
  rintro _ T ⟨rfl, h1, h2⟩
  (simp (disch := first | decide | omega | (simp only [nx]; first | done | omega)) only [go_sem]; (repeat with_reducible refine aI ?_))
  have := numB_length_le xs.length hu
  refine (raw_w own2 xs (Nat.lt_of_lt_of_le hk h2.next) h1 (by rw [List.length_append]; omega)).mono ?_
  rintro _ T1 ⟨rfl, h3, h4⟩
  (simp (disch := first | decide | omega | (simp only [nx]; first | done | omega)) only [go_sem]; (repeat with_reducible refine aI ?_))
  refine ⟨by rw [← List.append_assoc]; exact h3, h2.trans h4⟩
set_option maxRecDepth 200000 in
set_option maxHeartbeats 4000000 in
theorem bool_w {S : St} {k : Nat} {bs : List UInt8} (b : Bool) (hk : k < S.next) (h : WAt k bs S) (hl : bs.length + 1 ≤ 1099511627776) : DCalls Try.prog 23 [.loc k 0, .v (.bool b)] S fun d T => d = undefD ∧ WAt k (bs ++ [if b then 1 else 0]) T ∧ WFr k S T := by
  refine dcalls_inline mixed Try.func23 rfl (fun _ _ => by kernel_rfl) (rs := []) rfl (by kernel_rfl) (fun hS => ?_)
  cases b
  · (simp (disch := first | decide | omega | (simp only [nx]; first | done | omega)) only [go_sem]; (repeat with_reducible refine aI ?_))
    refine (raw_w .full [0] hk h (by simpa using hl)).mono ?_
    rintro _ T ⟨rfl, h1, h2⟩
    (simp (disch := first | decide | omega | (simp only [nx]; first | done | omega)) only [go_sem]; (repeat with_reducible refine aI ?_))
    exact ⟨h1, h2⟩
  · (simp (disch := first | decide | omega | (simp only [nx]; first | done | omega)) only [go_sem]; (repeat with_reducible refine aI ?_))
    refine (raw_w .full [1] hk h (by simpa using hl)).mono ?_
    rintro _ T ⟨rfl, h1, h2⟩
    (simp (disch := first | decide | omega | (simp only [nx]; first | done | omega)) only [go_sem]; (repeat with_reducible refine aI ?_))
    exact h2
set_option maxRecDepth 200000 in
set_option maxHeartbeats 4000000 in
theorem out_w {S : St} {k : Nat} {bs : List UInt8} (h : WAt k bs S) (hl : bs.length ≤ 1099511627776) : DCalls Try.prog 27 [.loc k 0] S fun d T => ∃ o, d = .sl o (bs.map bD) ∧ WAt k bs T ∧ WFr k S T := by
  obtain ⟨own, h1, h2⟩ := h
  refine dcalls_inline mixed Try.func27 rfl (fun _ _ => by kernel_rfl) (rs := [.tmp 2]) rfl (by kernel_rfl) (fun hS => ?_)
  (simp (disch := first | decide | omega | (simp only [nx]; first | done | omega)) only [go_sem, h1]; (repeat with_reducible refine aI ?_))
  refine dapp_bytes (bs := []) (.inl ⟨rfl, rfl⟩) (by simpa using hl) ?_
  (simp (disch := first | decide | omega | (simp only [nx]; first | done | omega)) only [go_sem]; (repeat with_reducible refine aI ?_))
  have hob : ∀ j o, S.ob j = some o → (S.grow .full 5 bs.length).ob j = some o := fun j o e => by
    have hlt := hS.lt e
    simp [St.grow, St.leave, St.add, show j ≠ S.next by omega, e]
  exact ⟨_, rfl, ⟨own, hob _ _ h1, h2.imp id fun ⟨g, h3, h4, h5⟩ => ⟨g, h3, h4, hob _ _ h5⟩⟩, WFr.of_keep (by simp [St.grow, St.leave, St.add]) hob⟩
end Go.Proofs.Ytonncfminojejaa

namespace Go.Proofs.Ytonncfminojejaa
open Go.RowKit
theorem bD_eq (b : UInt8) : bD b = .v (.int .u8 (b.toNat : Int)) := rfl
section
variable {P : Program} {f : Fm} {S : St}
theorem pfin_ret3 (t u v : Tmp) (S' : St) (d : D) : DQ.pfin P [.tmp t, .tmp u, .tmp v] S d .ret f S' = PFin S S' (.tup [f t, f u, f v]) d := by
  simp [DQ.pfin, dresL, dres, onVal, one]
theorem pfin_normal3 (t u v : Tmp) (S' : St) (d : D) : DQ.pfin P [.tmp t, .tmp u, .tmp v] S d .normal f S' = PFin S S' (.tup [f t, f u, f v]) d := by
  simp [DQ.pfin, dresL, dres, onVal, one]
end
attribute [go_sem] pfin_ret3 pfin_normal3
end Go.Proofs.Ytonncfminojejaa

namespace Go.Proofs.Ytonncfminojejaa
open Go.RowKit
theorem u8ne (x y : UInt8) : ((x.toNat : Int) != (y.toNat : Int)) = !decide (x = y) := by
  by_cases h : x = y
  · subst h; simp
  · have : ¬ ((x.toNat : Int) = (y.toNat : Int)) := fun e => h (UInt8.toNat_inj.1 (by omega))
    simp [h, this, bne]
set_option maxRecDepth 200000 in
set_option maxHeartbeats 8000000 in
theorem bytesEq_d (own own2 : Own) (p q : List UInt8) (hp : p.length ≤ 1000000) (hq : q.length ≤ 1000000) : DPure Try.prog 10 [.sl own (p.map bD), .sl own2 (q.map bD)] (.v (.bool (decide (p = q)))) := by
  refine dpure_of_dwp mixed Try.func10 rfl (fun _ _ => by kernel_rfl) (rs := [.tmp 4]) rfl (by kernel_rfl) trivial (fun S hS => ?_)
  by_cases hl : p.length = q.length
  · have b0 : ((p.length : Int) != (q.length : Int)) = false := by simp [hl]
    (simp (disch := first | decide | omega | (simp only [nx]; first | done | omega)) only [go_sem, b0]; (repeat with_reducible refine aI ?_))
    (refine dloop_st (fun t => List.contains [4, 5, 11, 12, 13, 14, 15, 16, 17, 18, 19, 20, 21, 22, 23, 24, 25] t) (by kernel_rfl) ?_ (p.length) (fun i f => i ≤ p.length ∧ f 5 = .v (.int .i64 (i : Nat)) ∧ (∀ j, j < i → p[j]? = q[j]?)) ?_ ?_; (exact (by (repeat' first | assumption | refine St.WF.leave ?_ _ | refine St.WF.add ?_ _ | refine St.WF.set ?_ ?_ _ | refine St.WF.grow ?_ _ _ _ | refine St.WF.keep ?_ ?_ | (first | omega | (simp only [RowOk.lo, nx]; first | done | omega))))); (exact ⟨(by omega), (by (first | (simp (disch := first | decide | omega | (simp only [nx]; first | done | omega)) only [go_sem]; first | done | rfl) | rfl)), (fun j hj => by omega)⟩); intro i g tn hn hT hg hI; obtain ⟨le, q5, hsame⟩ := hI; have q0 := hg 0 rfl; have q1 := hg 1 rfl; simp (disch := first | decide | omega | (simp only [nx]; first | done | omega)) only [go_sem] at q0 q1; clear hg; have hn' := hn; try simp only [add_next, set_next, grow_next, leave_next, drop_next] at hn')
    by_cases hlt : i < p.length
    · have b1 : decide ((i : Int) < (p.length : Int)) = true := by simp; omega
      have w1 : IntKind.i64.wrap ((i : Int) + 1) = ((i + 1 : Nat) : Int) := IntWalk.i64_in _ ⟨by omega, by omega⟩
      have hlt2 : i < q.length := by omega
      by_cases hx : p[i] = q[i]
      · have b2 : (!decide (p[i] = q[i])) = false := by simp [hx]
        (simp (disch := first | decide | omega | (simp only [nx]; first | done | omega)) only [go_sem, q0, q1, q5, b1, w1]; (repeat with_reducible refine aI ?_))
        refine ddraw_mk 9 (by kernel_rfl) ?_
        (simp (disch := first | decide | omega | (simp only [nx]; first | done | omega)) only [go_sem, q0, q1, q5, b1, b2, w1, bD_eq, u8ne]; (repeat with_reducible refine aI ?_))
        (refine ⟨by omega, (by (repeat' first | assumption | exact St.Sub.refl _ | exact RowOk.sub (by assumption) (by assumption) | refine St.Sub.trans ?_ (RowOk.sub (by assumption) (by assumption)) | refine St.Sub.add ?_ ?_ _ | refine St.Sub.set ?_ ?_ ?_ _ | refine St.Sub.keep ?_ ?_ | refine St.WF.leave ?_ _ | refine St.WF.add ?_ _ | refine St.WF.set ?_ ?_ _ | refine St.WF.grow ?_ _ _ _ | refine St.WF.keep ?_ ?_ | (first | omega | (simp only [RowOk.lo, nx]; first | done | omega)))), ?_⟩; refine ⟨by omega, ?_, ?_⟩; all_goals (try (first | (simp (disch := first | decide | omega | (simp only [nx]; first | done | omega)) only [go_sem, w1]; first | done | rfl) | rfl)))
        intro j hj
        by_cases e : j = i
        · subst e; rw [List.getElem?_eq_getElem hlt, List.getElem?_eq_getElem hlt2, hx]
        · exact hsame j (by omega)
      · have b2 : (!decide (p[i] = q[i])) = true := by simp [hx]
        (simp (disch := first | decide | omega | (simp only [nx]; first | done | omega)) only [go_sem, q0, q1, q5, b1]; (repeat with_reducible refine aI ?_))
        refine ddraw_mk 9 (by kernel_rfl) ?_
        (simp (disch := first | decide | omega | (simp only [nx]; first | done | omega)) only [go_sem, q0, q1, q5, b1, b2, bD_eq, u8ne]; (repeat with_reducible refine aI ?_))
        refine ⟨?_, (by (repeat' first | assumption | exact St.Sub.refl _ | exact RowOk.sub (by assumption) (by assumption) | refine St.Sub.trans ?_ (RowOk.sub (by assumption) (by assumption)) | refine St.Sub.add ?_ ?_ _ | refine St.Sub.set ?_ ?_ ?_ _ | refine St.Sub.keep ?_ ?_ | refine St.WF.leave ?_ _ | refine St.WF.add ?_ _ | refine St.WF.set ?_ ?_ _ | refine St.WF.grow ?_ _ _ _ | refine St.WF.keep ?_ ?_ | (first | omega | (simp only [RowOk.lo, nx]; first | done | omega))))⟩
        rw [decide_eq_false]
        · rfl
        · intro e; subst e; exact hx rfl
    · have b1 : decide ((i : Int) < (p.length : Int)) = false := by simp; omega
      (simp (disch := first | decide | omega | (simp only [nx]; first | done | omega)) only [go_sem, q0, q1, q5, b1]; (repeat with_reducible refine aI ?_))
      refine ⟨?_, (by (repeat' first | assumption | exact St.Sub.refl _ | exact RowOk.sub (by assumption) (by assumption) | refine St.Sub.trans ?_ (RowOk.sub (by assumption) (by assumption)) | refine St.Sub.add ?_ ?_ _ | refine St.Sub.set ?_ ?_ ?_ _ | refine St.Sub.keep ?_ ?_ | refine St.WF.leave ?_ _ | refine St.WF.add ?_ _ | refine St.WF.set ?_ ?_ _ | refine St.WF.grow ?_ _ _ _ | refine St.WF.keep ?_ ?_ | (first | omega | (simp only [RowOk.lo, nx]; first | done | omega))))⟩
      rw [decide_eq_true]
      · rfl
      · refine List.ext_getElem? fun j => ?_
        by_cases hj : j < i
        · exact hsame j hj
        · rw [List.getElem?_eq_none (by omega), List.getElem?_eq_none (by omega)]
  · have b0 : ((p.length : Int) != (q.length : Int)) = true := by simp; omega
    (simp (disch := first | decide | omega | (simp only [nx]; first | done | omega)) only [go_sem, b0]; (repeat with_reducible refine aI ?_))
    refine ⟨?_, (by (repeat' first | assumption | exact St.Sub.refl _ | exact RowOk.sub (by assumption) (by assumption) | refine St.Sub.trans ?_ (RowOk.sub (by assumption) (by assumption)) | refine St.Sub.add ?_ ?_ _ | refine St.Sub.set ?_ ?_ ?_ _ | refine St.Sub.keep ?_ ?_ | refine St.WF.leave ?_ _ | refine St.WF.add ?_ _ | refine St.WF.set ?_ ?_ _ | refine St.WF.grow ?_ _ _ _ | refine St.WF.keep ?_ ?_ | (first | omega | (simp only [RowOk.lo, nx]; first | done | omega))))⟩
    rw [decide_eq_false]
    · rfl
    · intro e; subst e; exact hl rfl
end Go.Proofs.Ytonncfminojejaa

namespace Go.Proofs.Ytonncfminojejaa
open Go.RowKit
section
set_option maxRecDepth 200000
set_option maxHeartbeats 8000000
theorem bnil_ne (k : Nat) : dbin Try.prog .neq 31 (.tmp k) (.const .nilIface) (.v .nilIface) (.v .nilIface) = some (True, .v (.bool false)) := by kernel_rfl
theorem placeH : placeT Try.prog 44 = some fun i => some (i * 1, 1) := by kernel_rfl
def hA : H32 := ⟨1 :: List.replicate 31 0, rfl⟩
def hB : H32 := ⟨2 :: List.replicate 31 0, rfl⟩
theorem bnil_eq (k : Nat) : dbin Try.prog .eql 31 (.tmp k) (.const .nilIface) (.v .nilIface) (.v .nilIface) = some (True, .v (.bool true)) := by kernel_rfl
end
end Go.Proofs.Ytonncfminojejaa

namespace Go.Proofs.Ytonncfminojejaa
open Go.RowKit
theorem cells_encB (l : List UInt8) : (encB l).cells = [.sl .no (l.map bD)] := rfl
theorem ba_toList (l : List UInt8) : (ByteArray.mk l.toArray).toList = l := by simp
section
set_option maxRecDepth 200000
set_option maxHeartbeats 8000000
theorem same23_d (own own2 : Own) (a b : List (List UInt8)) (ha : a.length ≤ 1000000) : DPure Try.prog 29 [.sl own (a.map encB), .sl own2 (b.map encB)] (.v (.bool (decide (a = b)))) := by
  refine dpure_of_dwp mixed Try.func29 rfl (fun _ _ => by kernel_rfl) (rs := [.tmp 4]) rfl (by kernel_rfl) trivial (fun S hS => ?_)
  by_cases hl : a.length = b.length
  · have b0 : ((a.length : Int) != (b.length : Int)) = false := by simp [hl]
    (simp (disch := first | decide | omega | (simp only [nx]; first | done | omega)) only [go_sem, b0]; (repeat with_reducible refine aI ?_))
    (refine dloop_st (fun t => List.contains [4, 5, 11, 12, 13, 14, 15, 16, 17, 18, 19, 20, 21, 22, 23, 24, 25, 26, 27] t) (by kernel_rfl) ?_ (a.length) (fun i f => i ≤ a.length ∧ f 5 = .v (.int .i64 (i : Nat)) ∧ (∀ j, j < i → a[j]? = b[j]?)) ?_ ?_; (exact (by (repeat' first | assumption | refine St.WF.leave ?_ _ | refine St.WF.add ?_ _ | refine St.WF.set ?_ ?_ _ | refine St.WF.grow ?_ _ _ _ | refine St.WF.keep ?_ ?_ | (first | omega | (simp only [RowOk.lo, nx]; first | done | omega))))); (exact ⟨(by omega), (by (first | (simp (disch := first | decide | omega | (simp only [nx]; first | done | omega)) only [go_sem]; first | done | rfl) | rfl)), (fun j h => by omega)⟩); intro i g tn hn hT hg hI; obtain ⟨le, q5, hs⟩ := hI; have q0 := hg 0 rfl; have q1 := hg 1 rfl; simp (disch := first | decide | omega | (simp only [nx]; first | done | omega)) only [go_sem] at q0 q1; clear hg; have hn' := hn; try simp only [add_next, set_next, grow_next, leave_next, drop_next] at hn')
    by_cases hlt : i < a.length
    · have b1 : decide ((i : Int) < (a.length : Int)) = true := by simp; omega
      have w1 : IntKind.i64.wrap ((i : Int) + 1) = ((i + 1 : Nat) : Int) := IntWalk.i64_in _ ⟨by omega, by omega⟩
      have hlt' : i < b.length := by omega
      (simp (disch := first | decide | omega | (simp only [nx]; first | done | omega)) only [go_sem, q0, q1, q5, b1]; (repeat with_reducible refine aI ?_))
      refine ddraw_mk 11 (by kernel_rfl) ?_
      have ca := cells_encB a[i]
      have cb := cells_encB b[i]
      (simp (disch := first | decide | omega | (simp only [nx]; first | done | omega)) only [go_sem, q0, q1, q5, hlt, hlt', ca, cb, bytesD_map]; (repeat with_reducible refine aI ?_))
      by_cases he : a[i] = b[i]
      · have b2 : (!((ByteArray.mk a[i].toArray).toList == (ByteArray.mk b[i].toArray).toList)) = false := by rw [ba_toList, ba_toList, he]; simp
        (simp (disch := first | decide | omega | (simp only [nx]; first | done | omega)) only [go_sem, b2, q5, w1]; (repeat with_reducible refine aI ?_))
        (refine ⟨by omega, (by (repeat' first | assumption | exact St.Sub.refl _ | exact RowOk.sub (by assumption) (by assumption) | refine St.Sub.trans ?_ (RowOk.sub (by assumption) (by assumption)) | refine St.Sub.add ?_ ?_ _ | refine St.Sub.set ?_ ?_ ?_ _ | refine St.Sub.keep ?_ ?_ | refine St.WF.leave ?_ _ | refine St.WF.add ?_ _ | refine St.WF.set ?_ ?_ _ | refine St.WF.grow ?_ _ _ _ | refine St.WF.keep ?_ ?_ | (first | omega | (simp only [RowOk.lo, nx]; first | done | omega)))), ?_⟩; refine ⟨by omega, ?_, ?_⟩; all_goals (try (first | (simp (disch := first | decide | omega | (simp only [nx]; first | done | omega)) only [go_sem, w1]; first | done | rfl) | rfl)))
        intro j hj
        by_cases e : j = i
        · subst e; rw [List.getElem?_eq_getElem hlt, List.getElem?_eq_getElem hlt', he]
        · exact hs j (by omega)
      · have b2 : (!((ByteArray.mk a[i].toArray).toList == (ByteArray.mk b[i].toArray).toList)) = true := by rw [ba_toList, ba_toList]; simp [he]
        (simp (disch := first | decide | omega | (simp only [nx]; first | done | omega)) only [go_sem, b2]; (repeat with_reducible refine aI ?_))
        refine ⟨?_, (by (repeat' first | assumption | exact St.Sub.refl _ | exact RowOk.sub (by assumption) (by assumption) | refine St.Sub.trans ?_ (RowOk.sub (by assumption) (by assumption)) | refine St.Sub.add ?_ ?_ _ | refine St.Sub.set ?_ ?_ ?_ _ | refine St.Sub.keep ?_ ?_ | refine St.WF.leave ?_ _ | refine St.WF.add ?_ _ | refine St.WF.set ?_ ?_ _ | refine St.WF.grow ?_ _ _ _ | refine St.WF.keep ?_ ?_ | (first | omega | (simp only [RowOk.lo, nx]; first | done | omega))))⟩
        have : a ≠ b := fun h => he (by subst h; rfl)
        simp [D.frz, this]
    · have b1 : decide ((i : Int) < (a.length : Int)) = false := by simp; omega
      (simp (disch := first | decide | omega | (simp only [nx]; first | done | omega)) only [go_sem, q0, q5, b1]; (repeat with_reducible refine aI ?_))
      refine ⟨?_, (by (repeat' first | assumption | exact St.Sub.refl _ | exact RowOk.sub (by assumption) (by assumption) | refine St.Sub.trans ?_ (RowOk.sub (by assumption) (by assumption)) | refine St.Sub.add ?_ ?_ _ | refine St.Sub.set ?_ ?_ ?_ _ | refine St.Sub.keep ?_ ?_ | refine St.WF.leave ?_ _ | refine St.WF.add ?_ _ | refine St.WF.set ?_ ?_ _ | refine St.WF.grow ?_ _ _ _ | refine St.WF.keep ?_ ?_ | (first | omega | (simp only [RowOk.lo, nx]; first | done | omega))))⟩
      have : a = b := List.ext_getElem? fun j => by
        by_cases hj : j < i
        · exact hs j hj
        · rw [List.getElem?_eq_none (by omega), List.getElem?_eq_none (by omega)]
      simp [D.frz, this]
  · have b0 : ((a.length : Int) != (b.length : Int)) = true := by simp; omega
    (simp (disch := first | decide | omega | (simp only [nx]; first | done | omega)) only [go_sem, b0]; (repeat with_reducible refine aI ?_))
    refine ⟨?_, (by (repeat' first | assumption | exact St.Sub.refl _ | exact RowOk.sub (by assumption) (by assumption) | refine St.Sub.trans ?_ (RowOk.sub (by assumption) (by assumption)) | refine St.Sub.add ?_ ?_ _ | refine St.Sub.set ?_ ?_ ?_ _ | refine St.Sub.keep ?_ ?_ | refine St.WF.leave ?_ _ | refine St.WF.add ?_ _ | refine St.WF.set ?_ ?_ _ | refine St.WF.grow ?_ _ _ _ | refine St.WF.keep ?_ ?_ | (first | omega | (simp only [RowOk.lo, nx]; first | done | omega))))⟩
    have : a ≠ b := fun h => hl (by rw [h])
    simp [D.frz, this]
end
end Go.Proofs.Ytonncfminojejaa

namespace Go.Proofs.Ytonncfminojejaa
open Go.RowKit
section
set_option maxRecDepth 200000
set_option maxHeartbeats 8000000
theorem bin_beqW {x y : Operand} (a b : Bool) : dbin Try.prog .eql 4 x y (.v (.bool a)) (.v (.bool b)) = some (True, .v (.bool (a == b))) := by cases a <;> cases b <;> kernel_rfl
end
end Go.Proofs.Ytonncfminojejaa

namespace Go.Proofs.Ytonncfminojejaa
open Go.RowKit
abbrev F64 := {l : List UInt8 // l.length = 64}
def encF (h : F64) : D := .agg (h.1.map bD)
theorem cells_encF (h : F64) : (encF h).cells = h.1.map bD := rfl
theorem len_encF (h : F64) : (h.1.map bD).length = 64 := by simp [h.2]
theorem width_encF (h : F64) : (encF h).width = 64 := len_encF h
theorem okCell_encF (h : F64) : (encF h).okCell = true := rfl
theorem take_filter (h : F64) : (h.1.map bD).take 64 = h.1.map bD := List.take_of_length_le (by rw [len_encF]; omega)
theorem agg_filter (h : F64) : D.agg (h.1.map bD) = encF h := rfl
theorem valsEq_filter (a b : F64) : valsEq (a.1.map bV) (b.1.map bV) = decide (a = b) := by
  rw [valsEq_bytes]; congr 1; rw [Subtype.ext_iff]
theorem equalIn_filter (d : Nat) (a b : F64) (w : World) : (Op.equalIn (d + 2) 22 (.agg (a.1.map bV).toArray) (.agg (b.1.map bV).toArray)).run Try.prog w = .ok (decide (a = b)) w := by
  rw [bV_cell, run_equalIn_bytes (P := Try.prog) w d 22 5 64 Try.underlying22 Try.underlying5 (fun w => by kernel_rfl) a.1 b.1 a.2 b.2]
  congr 1
  rw [Bool.eq_iff_iff]
  simp [Subtype.ext_iff]
theorem eqOk_filter {x y : Operand} (a b : F64) : EqOk Try.prog .eql 22 x y (a.1.map bV) (b.1.map bV) (decide (a = b)) ∧ EqOk Try.prog .neq 22 x y (a.1.map bV) (b.1.map bV) (!decide (a = b)) := by
  constructor <;> intro w
  · rw [Sem.run_bind, run_eqGuard_agg w _ _ _ _ _ _ (by kernel_rfl), Result.andThen_ok, run_eql_struct, equalIn_filter 9998 a b w, Result.andThen_ok]
  · rw [Sem.run_bind, run_eqGuard_agg w _ _ _ _ _ _ (by kernel_rfl), Result.andThen_ok, run_neq_struct, equalIn_filter 9998 a b w, Result.andThen_ok]
section
variable {x y : Operand} {K : D → Prop} {K' : D → St → Prop} {S : St}
theorem bin_eqF (a b : F64) : dbin Try.prog .eql 22 x y (encF a) (encF b) = some (EqOk Try.prog .eql 22 x y (a.1.map bV) (b.1.map bV) (decide (a = b)), .v (.bool (decide (a = b)))) := by
  simp only [dbin, encF, vals_bytes, dbinA, valsEq_filter]
theorem bin_neF (a b : F64) : dbin Try.prog .neq 22 x y (encF a) (encF b) = some (EqOk Try.prog .neq 22 x y (a.1.map bV) (b.1.map bV) (!decide (a = b)), .v (.bool (!decide (a = b)))) := by
  simp only [dbin, encF, vals_bytes, dbinA, valsEq_filter]
theorem onVal_eqF (a b : F64) : onVal (dbin Try.prog .eql 22 x y (encF a) (encF b)) K = K (.v (.bool (decide (a = b)))) := by
  rw [bin_eqF, onVal_some]; exact propext ⟨fun h => h.2, fun h => ⟨(eqOk_filter a b).1, h⟩⟩
theorem onVal_neF (a b : F64) : onVal (dbin Try.prog .neq 22 x y (encF a) (encF b)) K = K (.v (.bool (!decide (a = b)))) := by
  rw [bin_neF, onVal_some]; exact propext ⟨fun h => h.2, fun h => ⟨(eqOk_filter a b).2, h⟩⟩
theorem onValS_eqF (a b : F64) : onValS (dbin Try.prog .eql 22 x y (encF a) (encF b)) K' S = K' (.v (.bool (decide (a = b)))) S := by
  rw [bin_eqF, onValS_some]; exact propext ⟨fun h => h.2, fun h => ⟨(eqOk_filter a b).1, h⟩⟩
theorem onValS_neF (a b : F64) : onValS (dbin Try.prog .neq 22 x y (encF a) (encF b)) K' S = K' (.v (.bool (!decide (a = b)))) S := by
  rw [bin_neF, onValS_some]; exact propext ⟨fun h => h.2, fun h => ⟨(eqOk_filter a b).2, h⟩⟩
end
attribute [go_sem] onVal_eqF onVal_neF onValS_eqF onValS_neF cells_encF take_filter agg_filter len_encF width_encF okCell_encF
structure DMs where
  k : Int
  r : Bool
  f : F64
  ids : List H32
  es : List (List UInt8)
deriving DecidableEq
def msT (m : DMs) : List D := [.sl .no (m.ids.map encH), .sl .no (m.es.map encB)]
def msCs (m : DMs) : List D := .v (.int .i64 m.k) :: .v (.bool m.r) :: (m.f.1.map bD ++ msT m)
def encMs (m : DMs) : D := .agg (msCs m)
theorem cells_encMs (m : DMs) : (encMs m).cells = msCs m := rfl
theorem len_msCs (m : DMs) : (msCs m).length = 68 := by simp [msCs, msT, m.f.2]
theorem width_encMs (m : DMs) : (encMs m).width = 68 := len_msCs m
theorem okCell_encMs (m : DMs) : (encMs m).okCell = true := rfl
theorem take_msCs (m : DMs) : (msCs m).take 68 = msCs m := List.take_of_length_le (by rw [len_msCs]; omega)
theorem agg_msCs (m : DMs) : D.agg (msCs m) = encMs m := rfl
theorem k_msCs (m : DMs) : (msCs m).getD 0 undefD = .v (.int .i64 m.k) := rfl
theorem r_msCs (m : DMs) : (msCs m).getD 1 undefD = .v (.bool m.r) := rfl
theorem f_msCs (m : DMs) : ((msCs m).drop 2).take 64 = m.f.1.map bD := by
  show ((m.f.1.map bD ++ msT m).take 64) = _
  rw [List.take_append_of_le_length (by rw [len_encF]; omega), take_filter]
theorem tail_msCs (m : DMs) (j : Nat) : (msCs m).getD (66 + j) undefD = (msT m).getD j undefD := by
  rw [msCs, show 66 + j = (64 + j + 1) + 1 by omega, List.getD_cons_succ, List.getD_cons_succ, List.getD_eq_getElem?_getD, List.getElem?_append_right (by rw [len_encF]; omega), len_encF, show 64 + j - 64 = j by omega, List.getD_eq_getElem?_getD]
theorem ids_msCs (m : DMs) : (msCs m).getD 66 undefD = .sl .no (m.ids.map encH) := tail_msCs m 0
theorem es_msCs (m : DMs) : (msCs m).getD 67 undefD = .sl .no (m.es.map encB) := tail_msCs m 1
attribute [go_sem] cells_encMs len_msCs width_encMs okCell_encMs take_msCs agg_msCs k_msCs r_msCs f_msCs ids_msCs es_msCs
def sumE : List (List UInt8) → Nat
  | [] => 0
  | b :: l => b.length + sumE l
section
set_option maxRecDepth 200000
set_option maxHeartbeats 8000000
theorem same25_d (a b : DMs) (ha : a.ids.length ≤ 1000000) (ha2 : a.es.length ≤ 1000000) : DPure Try.prog 11 [encMs a, encMs b] (.v (.bool (decide (a = b)))) := by
  refine dpure_of_dwp mixed Try.func11 rfl (fun _ _ => by kernel_rfl) (rs := [.tmp 4]) rfl (by kernel_rfl) trivial (fun S hS => ?_)
  have fin : ∀ {v : Bool}, v = decide (a = b) → (D.v (.bool v)).frz = D.v (.bool (decide (a = b))) := fun h => by rw [h]; rfl
  have ff : ∀ {c : Prop} [Decidable c], (a = b → c) → ¬ c → false = decide (a = b) := fun h1 h2 => (decide_eq_false fun e => h2 (h1 e)).symm
  by_cases hk : a.k = b.k
  · have b0 : (a.k == b.k) = true := by simp [hk]
    by_cases hr : a.r = b.r
    · have b1 : (a.r == b.r) = true := by simp [hr]
      by_cases hf : a.f = b.f
      · have b2 : decide (a.f = b.f) = true := decide_eq_true hf
        (simp (disch := first | decide | omega | (simp only [nx]; first | done | omega)) only [go_sem, b0, b1, b2, bin_beqW]; (repeat with_reducible refine aI ?_))
        refine DCalls.of_pure (hashes_d .no .no a.ids b.ids ha) ?_
        by_cases hi : a.ids = b.ids
        · have b3 : decide (a.ids = b.ids) = true := decide_eq_true hi
          (simp (disch := first | decide | omega | (simp only [nx]; first | done | omega)) only [go_sem, b3]; (repeat with_reducible refine aI ?_))
          refine DCalls.of_pure (same23_d .no .no a.es b.es ha2) ?_
          (simp (disch := first | decide | omega | (simp only [nx]; first | done | omega)) only [go_sem]; (repeat with_reducible refine aI ?_))
          refine ⟨?_, (by (repeat' first | assumption | exact St.Sub.refl _ | exact RowOk.sub (by assumption) (by assumption) | refine St.Sub.trans ?_ (RowOk.sub (by assumption) (by assumption)) | refine St.Sub.add ?_ ?_ _ | refine St.Sub.set ?_ ?_ ?_ _ | refine St.Sub.keep ?_ ?_ | refine St.WF.leave ?_ _ | refine St.WF.add ?_ _ | refine St.WF.set ?_ ?_ _ | refine St.WF.grow ?_ _ _ _ | refine St.WF.keep ?_ ?_ | (first | omega | (simp only [RowOk.lo, nx]; first | done | omega))))⟩
          refine fin (decide_eq_decide.2 ⟨fun he => ?_, fun e => by rw [e]⟩)
          obtain ⟨k1, r1, f1, i1, e1⟩ := a
          obtain ⟨k2, r2, f2, i2, e2⟩ := b
          simp only at hk hr hf hi he
          rw [hk, hr, hf, hi, he]
        · have b3 : decide (a.ids = b.ids) = false := decide_eq_false hi
          (simp (disch := first | decide | omega | (simp only [nx]; first | done | omega)) only [go_sem, b3]; (repeat with_reducible refine aI ?_))
          refine ⟨?_, (by (repeat' first | assumption | exact St.Sub.refl _ | exact RowOk.sub (by assumption) (by assumption) | refine St.Sub.trans ?_ (RowOk.sub (by assumption) (by assumption)) | refine St.Sub.add ?_ ?_ _ | refine St.Sub.set ?_ ?_ ?_ _ | refine St.Sub.keep ?_ ?_ | refine St.WF.leave ?_ _ | refine St.WF.add ?_ _ | refine St.WF.set ?_ ?_ _ | refine St.WF.grow ?_ _ _ _ | refine St.WF.keep ?_ ?_ | (first | omega | (simp only [RowOk.lo, nx]; first | done | omega))))⟩
          exact fin (ff (fun e => by rw [e]) hi)
      · have b2 : decide (a.f = b.f) = false := decide_eq_false hf
        (simp (disch := first | decide | omega | (simp only [nx]; first | done | omega)) only [go_sem, b0, b1, b2, bin_beqW]; (repeat with_reducible refine aI ?_))
        refine ⟨?_, (by (repeat' first | assumption | exact St.Sub.refl _ | exact RowOk.sub (by assumption) (by assumption) | refine St.Sub.trans ?_ (RowOk.sub (by assumption) (by assumption)) | refine St.Sub.add ?_ ?_ _ | refine St.Sub.set ?_ ?_ ?_ _ | refine St.Sub.keep ?_ ?_ | refine St.WF.leave ?_ _ | refine St.WF.add ?_ _ | refine St.WF.set ?_ ?_ _ | refine St.WF.grow ?_ _ _ _ | refine St.WF.keep ?_ ?_ | (first | omega | (simp only [RowOk.lo, nx]; first | done | omega))))⟩
        exact fin (ff (fun e => by rw [e]) hf)
    · have b1 : (a.r == b.r) = false := by simp [hr]
      (simp (disch := first | decide | omega | (simp only [nx]; first | done | omega)) only [go_sem, b0, b1, bin_beqW]; (repeat with_reducible refine aI ?_))
      refine ⟨?_, (by (repeat' first | assumption | exact St.Sub.refl _ | exact RowOk.sub (by assumption) (by assumption) | refine St.Sub.trans ?_ (RowOk.sub (by assumption) (by assumption)) | refine St.Sub.add ?_ ?_ _ | refine St.Sub.set ?_ ?_ ?_ _ | refine St.Sub.keep ?_ ?_ | refine St.WF.leave ?_ _ | refine St.WF.add ?_ _ | refine St.WF.set ?_ ?_ _ | refine St.WF.grow ?_ _ _ _ | refine St.WF.keep ?_ ?_ | (first | omega | (simp only [RowOk.lo, nx]; first | done | omega))))⟩
      exact fin (ff (fun e => by rw [e]) hr)
  · have b0 : (a.k == b.k) = false := by simp [hk]
    (simp (disch := first | decide | omega | (simp only [nx]; first | done | omega)) only [go_sem, b0]; (repeat with_reducible refine aI ?_))
    refine ⟨?_, (by (repeat' first | assumption | exact St.Sub.refl _ | exact RowOk.sub (by assumption) (by assumption) | refine St.Sub.trans ?_ (RowOk.sub (by assumption) (by assumption)) | refine St.Sub.add ?_ ?_ _ | refine St.Sub.set ?_ ?_ ?_ _ | refine St.Sub.keep ?_ ?_ | refine St.WF.leave ?_ _ | refine St.WF.add ?_ _ | refine St.WF.set ?_ ?_ _ | refine St.WF.grow ?_ _ _ _ | refine St.WF.keep ?_ ?_ | (first | omega | (simp only [RowOk.lo, nx]; first | done | omega))))⟩
    exact fin (ff (fun e => by rw [e]) hk)
end
end Go.Proofs.Ytonncfminojejaa

namespace Go.Proofs.Ytonncfminojejaa
open Go.ChangeShapes Go.WideShapes Go.ChangeAt Go.RowKit Go.Deep Go.Joins
section
set_option maxRecDepth 20000
variable {H : Type} {enc : TypeId × Value → H} {w : World}
theorem trod_struct5m {P : Program} {t : TypeId} {f0 f1 f2 f3 f4 : Field} {fuel : Nat} {cs : List Value} {x : DataW H × List MemPlace} (ht : P.underlying t = some (.struct #[f0, f1, f2, f3, f4])) (h : DataW.trod enc P w 0 (fun _ => true) true fuel t cs = some x) :
    ∃ y0 y1 y2 y3 y4 n, x.1 = .agg [y0.1, y1.1, y2.1, y3.1, y4.1] ∧ cs.length = P.cellsOf t ∧ DataW.trod enc P w 0 (fun _ => true) true n f0.type ((cs.drop f0.offset).take (P.cellsOf f0.type)) = some y0 ∧
      DataW.trod enc P w 0 (fun _ => true) true n f1.type ((cs.drop f1.offset).take (P.cellsOf f1.type)) = some y1 ∧ DataW.trod enc P w 0 (fun _ => true) true n f2.type ((cs.drop f2.offset).take (P.cellsOf f2.type)) = some y2 ∧
      DataW.trod enc P w 0 (fun _ => true) true n f3.type ((cs.drop f3.offset).take (P.cellsOf f3.type)) = some y3 ∧ DataW.trod enc P w 0 (fun _ => true) true n f4.type ((cs.drop f4.offset).take (P.cellsOf f4.type)) = some y4 := by
  obtain ⟨xs, n, _, rfl, hl, hlen, hf⟩ := DataW.trod_struct ht h
  match xs, hlen with
  | [y0, y1, y2, y3, y4], _ => exact ⟨y0, y1, y2, y3, y4, n, by simp, hl, by simpa using hf 0 f0 rfl, by simpa using hf 1 f1 rfl, by simpa using hf 2 f2 rfl, by simpa using hf 3 f3 rfl, by simpa using hf 4 f4 rfl⟩
theorem names_cell2 {fuel : Nat} {cs : List Value} {x : DataW H × List MemPlace} (h : DataW.trod enc Try.prog w 0 (fun _ => true) true fuel 23 cs = some x) (hs : Sized Try.prog 23 x.1) :
    ∃ l : List H32, ∃ u, cs = [u] ∧ ∀ (η : Names) (X : Nat → Nat → Prop), (∀ b i, X b i) → Rep Try.prog w η X (.sl .no (l.map encH)) u := by
  obtain ⟨l, _, _, u, e, h3⟩ := open_structs_trod (P := Try.prog) encH (size := 32) (bytes := 32) Try.underlying23 (by kernel_rfl) (by omega) (by kernel_rfl) (by omega) (fun m cs => cs = m.1.map bV) (fun fuel cs x hx hsx _ => hash_of hx) width_encH (fun _ => rfl) (fun s cs hq η X hX => by subst hq; exact rep_hash s η X) h hs
  exact ⟨l, u, e, h3⟩
theorem sl_one2 {P : Program} {η : Names} {X : Nat → Nat → Prop} {l : List D} {u : Value} (h : Rep P w η X (.sl .no l) u) : u.oneCell' = true := by
  simp only [Rep] at h
  obtain ⟨A, c, rfl, _⟩ := h
  rfl
theorem filter_of {fuel : Nat} {cs : List Value} {x : DataW H × List MemPlace} (h : DataW.trod enc Try.prog w 0 (fun _ => true) true fuel 22 cs = some x) : ∃ m : F64, cs = m.1.map bV := by
  obtain ⟨l, h1, h2⟩ := open_u8array Try.underlying22 Try.underlying5 (by kernel_rfl) (by kernel_rfl) h
  exact ⟨⟨l, h1⟩, h2⟩
def IsMs (w : World) (m : DMs) (cs : List Value) : Prop := (m.es.length ≤ 140737488351232 ∧ ∀ b ∈ m.es, b.length ≤ 140737488351232) ∧ ∀ (η : Names) (X : Nat → Nat → Prop), (∀ b i, X b i) → Rep Try.prog w η X (encMs m) (.agg cs.toArray)
theorem open_ms_trod {fuel : Nat} {cs : List Value} {x : DataW H × List MemPlace} (h : DataW.trod enc Try.prog w 0 (fun _ => true) true fuel 26 cs = some x) (hs : Sized Try.prog 26 x.1) : ∃ m, IsMs w m cs := by
  obtain ⟨y0, y1, y2, y3, y4, n, hx, hl, g0, g1, g2, g3, g4⟩ := trod_struct5m Try.underlying26 h
  have k0 : Try.prog.cellsOf 3 = 1 := by kernel_rfl
  have k1 : Try.prog.cellsOf 4 = 1 := by kernel_rfl
  have k2 : Try.prog.cellsOf 22 = 64 := by kernel_rfl
  have k3 : Try.prog.cellsOf 23 = 1 := by kernel_rfl
  have k4 : Try.prog.cellsOf 24 = 1 := by kernel_rfl
  have k5 : Try.prog.cellsOf 26 = 68 := by kernel_rfl
  rw [k5] at hl
  rw [hx] at hs
  simp only [k0, k1, k2, k3, k4] at g0 g1 g2 g3 g4
  match cs, hl with
  | c0 :: c1 :: cs, hl =>
    have hl : cs.length = 66 := by simpa using hl
    simp only [List.drop_zero, List.take_succ_cons, List.take_zero, List.drop_succ_cons] at g0 g1 g2 g3 g4
    obtain ⟨k, e0, _, _⟩ := DataW.trod_int Try.underlying3 g0
    obtain ⟨r, e1, _⟩ := DataW.trod_bool Try.underlying4 g1
    injection e0 with e0 _
    injection e1 with e1 _
    subst e0 e1
    obtain ⟨f, hf⟩ := filter_of g2
    obtain ⟨ids, ui, ei, hi⟩ := names_cell2 g3 (sized_each Try.underlying26 hs (j := 3) rfl rfl)
    obtain ⟨es, q1, q2, ue, ee, he⟩ := ess_cell g4 (sized_each Try.underlying26 hs (j := 4) rfl rfl)
    have e : cs = f.1.map bV ++ [ui, ue] := by
      rw [← List.take_append_drop 64 cs, hf]
      congr 1
      have h1 : (cs.drop 64).take 1 ++ (cs.drop 65).take 1 = [ui, ue] := by rw [ei, ee]; rfl
      rw [← h1]
      have h2 : cs.drop 65 = (cs.drop 64).drop 1 := by rw [List.drop_drop]
      rw [h2]
      have h3 : (cs.drop 64).length = 2 := by rw [List.length_drop]; omega
      match cs.drop 64, h3 with
      | [a, b], _ => rfl
    refine ⟨⟨k, r, f, ids, es⟩, ⟨q2, q1⟩, fun η X hX => ?_⟩
    simp only [encMs, Rep]
    refine ⟨.int .i64 k :: .bool r :: cs, rfl, ?_, fun u hu => ?_⟩
    · simp only [msCs, RepL]
      refine ⟨_, _, rfl, by simp only [Rep], _, _, rfl, by simp only [Rep], ?_⟩
      rw [e]
      refine RepL.append ?_ ?_
      · have := repL_plain (P := Try.prog) (w := w) (η := η) (X := X) (f.1.map bV)
        rwa [List.map_map] at this
      · simp only [msT, RepL]
        exact ⟨_, _, rfl, hi η X hX, _, _, rfl, he η X hX, rfl⟩
    · rcases List.mem_cons.1 hu with rfl | hu
      · rfl
      · rcases List.mem_cons.1 hu with rfl | hu
        · rfl
        · rw [e] at hu
          rcases List.mem_append.1 hu with hu | hu
          · obtain ⟨b, _, rfl⟩ := List.mem_map.1 hu; rfl
          · simp only [List.mem_cons, List.not_mem_nil, or_false] at hu
            rcases hu with rfl | rfl
            · exact sl_one2 (hi η X hX)
            · exact sl_one2 (he η X hX)
theorem open_ms {v : Value} {d : DataW H} {p : List MemPlace} {W : World} {base : Nat} (h : DataW.Trod enc Try.prog w 0 (fun _ => true) true 26 v d p) (hs : Sized Try.prog 26 d) (hk : Value.okWide Try.prog W .any base 26 v) :
    ∃ (m : DMs) (cs : List Value), v = .agg cs.toArray ∧ IsMs w m cs := by
  have : ∃ cs : Array Value, v = .agg cs := by
    simp only [Value.okWide, Try.underlying26] at hk
    obtain ⟨cs, h1, _⟩ := hk
    exact ⟨cs, h1⟩
  obtain ⟨cs, rfl⟩ := this
  obtain ⟨fuel, h⟩ := h
  obtain ⟨s, hs⟩ := open_ms_trod (x := (d, p)) h hs
  exact ⟨s, cs.toList, by simp, by simpa [Value.cells] using hs⟩
end
end Go.Proofs.Ytonncfminojejaa

namespace Go.Proofs.Ytonncfminojejaa
open Go.RowKit
theorem sumE_take : ∀ {l : List (List UInt8)} {i : Nat} (h : i < l.length), sumE (l.take (i + 1)) = sumE (l.take i) + l[i].length
  | b :: l, 0, _ => by simp [sumE]
  | b :: l, i + 1, h => by
    have := sumE_take (l := l) (i := i) (by simpa using h)
    rw [List.take_succ_cons, List.take_succ_cons, sumE, sumE, this]
    simp only [List.getElem_cons_succ]
    omega
theorem sumE_le : ∀ (l : List (List UInt8)) (i : Nat), sumE (l.take i) ≤ sumE l
  | [], i => by simp [sumE]
  | b :: l, 0 => Nat.zero_le _
  | b :: l, i + 1 => by
    have := sumE_le l i
    simp only [List.take_succ_cons, sumE]
    omega
def greatM (m : DMs) : Bool := decide (9000 < m.es.length + sumE m.es) || decide (80 < m.ids.length)
theorem sum_part {l : List (List UInt8)} {b : List UInt8} (h : b ∈ l) : b.length ≤ sumE l := by
  induction l with
  | nil => cases h
  | cons x l ih =>
    rcases List.mem_cons.1 h with rfl | h
    · exact Nat.le_add_right _ _
    · exact Nat.le_trans (ih h) (Nat.le_add_left _ _)
theorem great_no {m : DMs} (h : greatM m = false) : m.es.length ≤ 9000 ∧ (∀ b ∈ m.es, b.length ≤ 9000) ∧ m.ids.length ≤ 80 ∧ m.es.length + sumE m.es ≤ 9000 := by
  rw [greatM, Bool.or_eq_false_iff, decide_eq_false_iff_not, decide_eq_false_iff_not] at h
  refine ⟨by omega, fun b hb => ?_, by omega, by omega⟩
  have := sum_part hb
  omega
section
set_option maxRecDepth 200000
set_option maxHeartbeats 8000000
theorem great25_d (m : DMs) (he : m.es.length ≤ 140737488355328) (hb : ∀ b ∈ m.es, b.length ≤ 140737488355328) : DPure Try.prog 7 [encMs m] (.v (.bool (greatM m))) := by
  refine dpure_of_dwp mixed Try.func7 rfl (fun _ _ => by kernel_rfl) (rs := [.tmp 2]) rfl (by kernel_rfl) trivial (fun S hS => ?_)
  (simp (disch := first | decide | omega | (simp only [nx]; first | done | omega)) only [go_sem]; (repeat with_reducible refine aI ?_))
  (refine dloop_st (fun t => List.contains [3, 4, 8, 9, 10, 11, 12, 13, 14, 15, 16, 17, 18, 19, 20, 21, 22, 23, 24, 25, 26] t) (by kernel_rfl) ?_ (m.es.length) (fun i f => i ≤ m.es.length ∧ f 4 = .v (.int .i64 (i : Nat)) ∧ f 3 = .v (.int .i64 ((m.es.length + sumE (m.es.take i) : Nat) : Int)) ∧ (m.es.length + sumE (m.es.take i) ≤ 1000000000000000)) ?_ ?_; (exact (by (repeat' first | assumption | refine St.WF.leave ?_ _ | refine St.WF.add ?_ _ | refine St.WF.set ?_ ?_ _ | refine St.WF.grow ?_ _ _ _ | refine St.WF.keep ?_ ?_ | (first | omega | (simp only [RowOk.lo, nx]; first | done | omega))))); (exact ⟨(by omega), (by (first | (simp (disch := first | decide | omega | (simp only [nx]; first | done | omega)) only [go_sem]; first | done | rfl) | rfl)), (by (first | (simp (disch := first | decide | omega | (simp only [nx]; first | done | omega)) only [go_sem]; first | done | rfl) | rfl)), (by simp [sumE]; omega)⟩); intro i g tn hn hT hg hI; obtain ⟨le, q4, q3, hs⟩ := hI; have q1 := hg 1 rfl; have q2 := hg 2 rfl; simp (disch := first | decide | omega | (simp only [nx]; first | done | omega)) only [go_sem] at q1 q2; clear hg; have hn' := hn; try simp only [add_next, set_next, grow_next, leave_next, drop_next] at hn')
  have hle := sumE_le m.es i
  by_cases hlt : i < m.es.length
  · have b1 : decide ((i : Int) < (m.es.length : Int)) = true := decide_eq_true (by omega)
    have w1 : IntKind.i64.wrap ((i : Int) + 1) = ((i + 1 : Nat) : Int) := IntWalk.i64_in _ ⟨by omega, by omega⟩
    by_cases hg : m.es.length + sumE (m.es.take i) ≤ 9000
    · have b2 : decide (((m.es.length + sumE (m.es.take i) : Nat) : Int) ≤ 9000) = true := decide_eq_true (by omega)
      have hbi := hb _ (List.getElem_mem hlt)
      have w2 : IntKind.i64.wrap (((m.es.length + sumE (m.es.take i) : Nat) : Int) + (m.es[i].length : Int)) = ((m.es.length + sumE (m.es.take (i + 1)) : Nat) : Int) := by
        rw [sumE_take hlt]
        exact (IntWalk.i64_in _ ⟨by omega, by omega⟩).trans (by omega)
      have ce := cells_encB m.es[i]
      (simp (disch := first | decide | omega | (simp only [nx]; first | done | omega)) only [go_sem, q1, q3, q4, b1, b2, hlt, ce, w1, w2]; (repeat with_reducible refine aI ?_))
      (refine ⟨by omega, (by (repeat' first | assumption | exact St.Sub.refl _ | exact RowOk.sub (by assumption) (by assumption) | refine St.Sub.trans ?_ (RowOk.sub (by assumption) (by assumption)) | refine St.Sub.add ?_ ?_ _ | refine St.Sub.set ?_ ?_ ?_ _ | refine St.Sub.keep ?_ ?_ | refine St.WF.leave ?_ _ | refine St.WF.add ?_ _ | refine St.WF.set ?_ ?_ _ | refine St.WF.grow ?_ _ _ _ | refine St.WF.keep ?_ ?_ | (first | omega | (simp only [RowOk.lo, nx]; first | done | omega)))), ?_⟩; refine ⟨by omega, ?_, ?_, ?_⟩; all_goals (try (first | (simp (disch := first | decide | omega | (simp only [nx]; first | done | omega)) only [go_sem, w1, w2]; first | done | rfl) | rfl)))
      rw [sumE_take hlt]; omega
    · have b2 : decide (((m.es.length + sumE (m.es.take i) : Nat) : Int) ≤ 9000) = false := decide_eq_false (by omega)
      have b3 : decide (((m.es.length + sumE (m.es.take i) : Nat) : Int) > 9000) = true := decide_eq_true (by omega)
      (simp (disch := first | decide | omega | (simp only [nx]; first | done | omega)) only [go_sem, q1, q3, q4, b1, b2, b3]; (repeat with_reducible refine aI ?_))
      refine ⟨?_, (by (repeat' first | assumption | exact St.Sub.refl _ | exact RowOk.sub (by assumption) (by assumption) | refine St.Sub.trans ?_ (RowOk.sub (by assumption) (by assumption)) | refine St.Sub.add ?_ ?_ _ | refine St.Sub.set ?_ ?_ ?_ _ | refine St.Sub.keep ?_ ?_ | refine St.WF.leave ?_ _ | refine St.WF.add ?_ _ | refine St.WF.set ?_ ?_ _ | refine St.WF.grow ?_ _ _ _ | refine St.WF.keep ?_ ?_ | (first | omega | (simp only [RowOk.lo, nx]; first | done | omega))))⟩
      have : greatM m = true := by rw [greatM, decide_eq_true (by omega : 9000 < m.es.length + sumE m.es)]; rfl
      rw [this]; rfl
  · have b1 : decide ((i : Int) < (m.es.length : Int)) = false := decide_eq_false (by omega)
    have et : m.es.take i = m.es := List.take_of_length_le (by omega)
    rw [et] at q3 hs
    by_cases hg : 9000 < m.es.length + sumE m.es
    · have b3 : decide (((m.es.length + sumE m.es : Nat) : Int) > 9000) = true := decide_eq_true (by omega)
      (simp (disch := first | decide | omega | (simp only [nx]; first | done | omega)) only [go_sem, q1, q3, q4, b1, b3]; (repeat with_reducible refine aI ?_))
      refine ⟨?_, (by (repeat' first | assumption | exact St.Sub.refl _ | exact RowOk.sub (by assumption) (by assumption) | refine St.Sub.trans ?_ (RowOk.sub (by assumption) (by assumption)) | refine St.Sub.add ?_ ?_ _ | refine St.Sub.set ?_ ?_ ?_ _ | refine St.Sub.keep ?_ ?_ | refine St.WF.leave ?_ _ | refine St.WF.add ?_ _ | refine St.WF.set ?_ ?_ _ | refine St.WF.grow ?_ _ _ _ | refine St.WF.keep ?_ ?_ | (first | omega | (simp only [RowOk.lo, nx]; first | done | omega))))⟩
      have : greatM m = true := by rw [greatM, decide_eq_true hg]; rfl
      rw [this]; rfl
    · have b3 : decide (((m.es.length + sumE m.es : Nat) : Int) > 9000) = false := decide_eq_false (by omega)
      have b4 : decide ((m.ids.length : Int) > 80) = decide (80 < m.ids.length) := decide_eq_decide.2 (by omega)
      (simp (disch := first | decide | omega | (simp only [nx]; first | done | omega)) only [go_sem, q1, q3, q4, b1, b3, b4]; (repeat with_reducible refine aI ?_))
      refine ⟨?_, (by (repeat' first | assumption | exact St.Sub.refl _ | exact RowOk.sub (by assumption) (by assumption) | refine St.Sub.trans ?_ (RowOk.sub (by assumption) (by assumption)) | refine St.Sub.add ?_ ?_ _ | refine St.Sub.set ?_ ?_ ?_ _ | refine St.Sub.keep ?_ ?_ | refine St.WF.leave ?_ _ | refine St.WF.add ?_ _ | refine St.WF.set ?_ ?_ _ | refine St.WF.grow ?_ _ _ _ | refine St.WF.keep ?_ ?_ | (first | omega | (simp only [RowOk.lo, nx]; first | done | omega))))⟩
      have : greatM m = decide (80 < m.ids.length) := by rw [greatM, decide_eq_false hg]; rfl
      rw [this]; rfl
end
end Go.Proofs.Ytonncfminojejaa

namespace Go.Proofs.Ytonncfminojejaa
open Go.RowKit
section
open Classical
noncomputable def riseH (l : List H32) : Bool := decide (∀ j (h : j + 1 < l.length), valH l[j] < valH l[j + 1])
end
theorem riseH_true {l : List H32} : riseH l = true ↔ ∀ j (h : j + 1 < l.length), valH l[j] < valH l[j + 1] := by unfold riseH; exact @decide_eq_true_iff _ (Classical.propDecidable _)
theorem riseH_false {l : List H32} : riseH l = false ↔ ∃ j, ∃ h : j + 1 < l.length, ¬ valH l[j] < valH l[j + 1] := by
  unfold riseH
  refine (@decide_eq_false_iff_not _ (Classical.propDecidable _)).trans ?_
  constructor
  · intro h
    exact Classical.byContradiction fun hn => h fun j hj => Classical.byContradiction fun hc => hn ⟨j, hj, hc⟩
  · rintro ⟨j, h, hn⟩ hc
    exact hn (hc j h)
theorem riseH_asc {l : List H32} (h : AscH l) : riseH l = true := riseH_true.2 fun j hj => by
  have := (List.pairwise_iff_getElem.1 h) j (j + 1) (by omega) hj (by omega)
  unfold hk at this
  omega
theorem rise_at {l : List H32} {i : Nat} (h : i + 1 < l.length) (hn : ¬ valH l[i] < valH l[i + 1]) : riseH l = false := riseH_false.2 ⟨i, h, hn⟩
def zF : F64 := ⟨List.replicate 64 0, by simp⟩
theorem lenZ {α : Type} [DecidableEq α] (l : List α) : ((l.length : Int) == 0) = decide (l = []) := by
  cases l with
  | nil => rfl
  | cons a l => rw [decide_eq_false (by simp)]; exact beq_eq_false_iff_ne.2 (by rw [List.length_cons]; omega)
theorem placeF : placeT Try.prog 22 = some fun i => some (i * 1, 1) := by kernel_rfl
theorem agg_zF : D.agg [D.v (.int .u8 0), D.v (.int .u8 0), D.v (.int .u8 0), D.v (.int .u8 0), D.v (.int .u8 0), D.v (.int .u8 0), D.v (.int .u8 0), D.v (.int .u8 0), D.v (.int .u8 0), D.v (.int .u8 0), D.v (.int .u8 0), D.v (.int .u8 0), D.v (.int .u8 0), D.v (.int .u8 0), D.v (.int .u8 0), D.v (.int .u8 0), D.v (.int .u8 0), D.v (.int .u8 0), D.v (.int .u8 0), D.v (.int .u8 0), D.v (.int .u8 0), D.v (.int .u8 0), D.v (.int .u8 0), D.v (.int .u8 0), D.v (.int .u8 0), D.v (.int .u8 0), D.v (.int .u8 0), D.v (.int .u8 0), D.v (.int .u8 0), D.v (.int .u8 0), D.v (.int .u8 0), D.v (.int .u8 0), D.v (.int .u8 0), D.v (.int .u8 0), D.v (.int .u8 0), D.v (.int .u8 0), D.v (.int .u8 0), D.v (.int .u8 0), D.v (.int .u8 0), D.v (.int .u8 0), D.v (.int .u8 0), D.v (.int .u8 0), D.v (.int .u8 0), D.v (.int .u8 0), D.v (.int .u8 0), D.v (.int .u8 0), D.v (.int .u8 0), D.v (.int .u8 0), D.v (.int .u8 0), D.v (.int .u8 0), D.v (.int .u8 0), D.v (.int .u8 0), D.v (.int .u8 0), D.v (.int .u8 0), D.v (.int .u8 0), D.v (.int .u8 0), D.v (.int .u8 0), D.v (.int .u8 0), D.v (.int .u8 0), D.v (.int .u8 0), D.v (.int .u8 0), D.v (.int .u8 0), D.v (.int .u8 0), D.v (.int .u8 0)] = encF zF := by kernel_rfl
def otherM (m : DMs) : Bool := m.r || !decide (m.f = zF)
def batchN (n : Nat) : Bool := decide (1 ≤ n) && decide (n ≤ 8)
def badE (b : List UInt8) : Bool := decide (b.length = 0) || decide (4096 < b.length)
noncomputable def rightM (m : DMs) : Bool :=
  if m.k = 1 then decide (m.ids.length ≤ 64) && riseH m.ids && decide (m.es = [])
  else if m.k = 2 then !otherM m && batchN m.ids.length && riseH m.ids && decide (m.es = [])
  else if m.k = 3 then !otherM m && decide (m.ids = []) && batchN m.es.length && !(m.es.any badE)
  else false
section
set_option maxRecDepth 200000
set_option maxHeartbeats 8000000
theorem eless_d (a b : H32) : DPure Try.prog 55 [encH a, encH b] (.v (.bool (decide (valH a < valH b)))) := by
  refine dpure_of_dwp mixed Try.func55 rfl (fun _ _ => by kernel_rfl) (rs := [.tmp 4]) rfl (by kernel_rfl) trivial (fun S hS => ?_)
  (simp (disch := first | decide | omega | (simp only [nx]; first | done | omega)) only [go_sem]; (repeat with_reducible refine aI ?_))
  refine ddraw_mk 5 (by kernel_rfl) ?_
  (simp (disch := first | decide | omega | (simp only [nx]; first | done | omega)) only [go_sem]; (repeat with_reducible refine aI ?_))
  refine dqgo_at (cmpH_st a b (winB_hash (t := 44) a ?_) (winB_hash (t := 44) b ?_)) ?_
  · (first | (simp (disch := first | decide | omega | (simp only [nx]; first | done | omega)) only [go_sem]; first | done | rfl) | rfl)
  · (first | (simp (disch := first | decide | omega | (simp only [nx]; first | done | omega)) only [go_sem]; first | done | rfl) | rfl)
  have hc : decide (cmpH a b < 0) = decide (valH a < valH b) := by
    have h := congrFun (congrFun ltOf_cmpH a) b
    unfold ltOf ltH hk at h
    rw [h]
    exact decide_eq_decide.2 (by omega)
  (simp (disch := first | decide | omega | (simp only [nx]; first | done | omega)) only [go_sem, hc]; (repeat with_reducible refine aI ?_))
  refine ⟨?_, (by (repeat' first | assumption | exact St.Sub.refl _ | exact RowOk.sub (by assumption) (by assumption) | refine St.Sub.trans ?_ (RowOk.sub (by assumption) (by assumption)) | refine St.Sub.add ?_ ?_ _ | refine St.Sub.set ?_ ?_ ?_ _ | refine St.Sub.keep ?_ ?_ | refine St.WF.leave ?_ _ | refine St.WF.add ?_ _ | refine St.WF.set ?_ ?_ _ | refine St.WF.grow ?_ _ _ _ | refine St.WF.keep ?_ ?_ | (first | omega | (simp only [RowOk.lo, nx]; first | done | omega))))⟩
  rfl
theorem rising_d (own : Own) (l : List H32) (hl : l.length ≤ 1000000) : DPure Try.prog 37 [.sl own (l.map encH)] (.v (.bool (riseH l))) := by
  refine dpure_of_dwp mixed Try.func37 rfl (fun _ _ => by kernel_rfl) (rs := [.tmp 2]) rfl (by kernel_rfl) trivial (fun S hS => ?_)
  (simp (disch := first | decide | omega | (simp only [nx]; first | done | omega)) only [go_sem]; (repeat with_reducible refine aI ?_))
  (refine dloop_st (fun t => List.contains [2, 3, 4, 5, 6, 7, 8, 9, 10, 11, 12, 13, 14, 15, 16, 17, 18, 19, 20] t) (by kernel_rfl) ?_ (l.length) (fun i f => i ≤ l.length ∧ f 3 = .v (.int .i64 ((i + 1 : Nat) : Int)) ∧ (∀ j (h : j + 1 < l.length), j < i → valH l[j] < valH l[j + 1])) ?_ ?_; (exact (by (repeat' first | assumption | refine St.WF.leave ?_ _ | refine St.WF.add ?_ _ | refine St.WF.set ?_ ?_ _ | refine St.WF.grow ?_ _ _ _ | refine St.WF.keep ?_ ?_ | (first | omega | (simp only [RowOk.lo, nx]; first | done | omega))))); (exact ⟨(by omega), (by (first | (simp (disch := first | decide | omega | (simp only [nx]; first | done | omega)) only [go_sem]; first | done | rfl) | rfl)), (fun j h hj => by omega)⟩); intro i g tn hn hT hg hI; obtain ⟨le, q3, hs⟩ := hI; have q0 := hg 0 rfl; simp (disch := first | decide | omega | (simp only [nx]; first | done | omega)) only [go_sem] at q0; clear hg; have hn' := hn; try simp only [add_next, set_next, grow_next, leave_next, drop_next] at hn')
  by_cases hlt : i + 1 < l.length
  · have b1 : decide (((i + 1 : Nat) : Int) < (l.length : Int)) = true := decide_eq_true (by omega)
    have w1 : IntKind.i64.wrap (((i + 1 : Nat) : Int) + 1) = ((i + 1 + 1 : Nat) : Int) := IntWalk.i64_in _ ⟨by omega, by omega⟩
    have w0 : IntKind.i64.wrap (((i + 1 : Nat) : Int) - 1) = ((i : Nat) : Int) := (IntWalk.i64_in _ ⟨by omega, by omega⟩).trans (by omega)
    have hlt' : i < l.length := by omega
    have lh := l[i].2
    have lh2 := l[i + 1].2
    (simp (disch := first | decide | omega | (simp only [nx]; first | done | omega)) only [go_sem, q0, q3, b1]; (repeat with_reducible refine aI ?_))
    refine ddraw_mk 11 (by kernel_rfl) ?_
    (simp (disch := first | decide | omega | (simp only [nx]; first | done | omega)) only [go_sem, q0, q3, w0, hlt, hlt', lh, lh2]; (repeat with_reducible refine aI ?_))
    refine dqgo_mk (eless_d l[i] l[i + 1]) ?_
    by_cases hv : valH l[i] < valH l[i + 1]
    · have b2 : decide (valH l[i] < valH l[i + 1]) = true := decide_eq_true hv
      (simp (disch := first | decide | omega | (simp only [nx]; first | done | omega)) only [go_sem, b2, q3, w1]; (repeat with_reducible refine aI ?_))
      (refine ⟨by omega, (by (repeat' first | assumption | exact St.Sub.refl _ | exact RowOk.sub (by assumption) (by assumption) | refine St.Sub.trans ?_ (RowOk.sub (by assumption) (by assumption)) | refine St.Sub.add ?_ ?_ _ | refine St.Sub.set ?_ ?_ ?_ _ | refine St.Sub.keep ?_ ?_ | refine St.WF.leave ?_ _ | refine St.WF.add ?_ _ | refine St.WF.set ?_ ?_ _ | refine St.WF.grow ?_ _ _ _ | refine St.WF.keep ?_ ?_ | (first | omega | (simp only [RowOk.lo, nx]; first | done | omega)))), ?_⟩; refine ⟨by omega, ?_, ?_⟩; all_goals (try (first | (simp (disch := first | decide | omega | (simp only [nx]; first | done | omega)) only [go_sem, w1]; first | done | rfl) | rfl)))
      intro j hj hji
      by_cases e : j = i
      · subst e; exact hv
      · exact hs j hj (by omega)
    · have b2 : decide (valH l[i] < valH l[i + 1]) = false := decide_eq_false hv
      (simp (disch := first | decide | omega | (simp only [nx]; first | done | omega)) only [go_sem, b2]; (repeat with_reducible refine aI ?_))
      refine ⟨?_, (by (repeat' first | assumption | exact St.Sub.refl _ | exact RowOk.sub (by assumption) (by assumption) | refine St.Sub.trans ?_ (RowOk.sub (by assumption) (by assumption)) | refine St.Sub.add ?_ ?_ _ | refine St.Sub.set ?_ ?_ ?_ _ | refine St.Sub.keep ?_ ?_ | refine St.WF.leave ?_ _ | refine St.WF.add ?_ _ | refine St.WF.set ?_ ?_ _ | refine St.WF.grow ?_ _ _ _ | refine St.WF.keep ?_ ?_ | (first | omega | (simp only [RowOk.lo, nx]; first | done | omega))))⟩
      rw [rise_at hlt hv]; rfl
  · have b1 : decide (((i + 1 : Nat) : Int) < (l.length : Int)) = false := decide_eq_false (by omega)
    (simp (disch := first | decide | omega | (simp only [nx]; first | done | omega)) only [go_sem, q0, q3, b1]; (repeat with_reducible refine aI ?_))
    refine ⟨?_, (by (repeat' first | assumption | exact St.Sub.refl _ | exact RowOk.sub (by assumption) (by assumption) | refine St.Sub.trans ?_ (RowOk.sub (by assumption) (by assumption)) | refine St.Sub.add ?_ ?_ _ | refine St.Sub.set ?_ ?_ ?_ _ | refine St.Sub.keep ?_ ?_ | refine St.WF.leave ?_ _ | refine St.WF.add ?_ _ | refine St.WF.set ?_ ?_ _ | refine St.WF.grow ?_ _ _ _ | refine St.WF.keep ?_ ?_ | (first | omega | (simp only [RowOk.lo, nx]; first | done | omega))))⟩
    have : riseH l = true := riseH_true.2 fun j hj => hs j hj (by omega)
    rw [this]; rfl
theorem batch_d (n : Nat) (hn : n ≤ 140737488355328) : DPure Try.prog 38 [.v (.int .i64 (n : Int))] (.v (.bool (batchN n))) := by
  refine dpure_of_dwp mixed Try.func38 rfl (fun _ _ => by kernel_rfl) (rs := [.tmp 2]) rfl (by kernel_rfl) trivial (fun S hS => ?_)
  by_cases h1 : 1 ≤ n
  · have b1 : decide ((n : Int) ≥ 1) = true := decide_eq_true (by omega)
    have b2 : decide ((n : Int) ≤ 8) = decide (n ≤ 8) := decide_eq_decide.2 (by omega)
    (simp (disch := first | decide | omega | (simp only [nx]; first | done | omega)) only [go_sem, b1, b2]; (repeat with_reducible refine aI ?_))
    refine ⟨?_, (by (repeat' first | assumption | exact St.Sub.refl _ | exact RowOk.sub (by assumption) (by assumption) | refine St.Sub.trans ?_ (RowOk.sub (by assumption) (by assumption)) | refine St.Sub.add ?_ ?_ _ | refine St.Sub.set ?_ ?_ ?_ _ | refine St.Sub.keep ?_ ?_ | refine St.WF.leave ?_ _ | refine St.WF.add ?_ _ | refine St.WF.set ?_ ?_ _ | refine St.WF.grow ?_ _ _ _ | refine St.WF.keep ?_ ?_ | (first | omega | (simp only [RowOk.lo, nx]; first | done | omega))))⟩
    rw [batchN, decide_eq_true h1]; rfl
  · have b1 : decide ((n : Int) ≥ 1) = false := decide_eq_false (by omega)
    (simp (disch := first | decide | omega | (simp only [nx]; first | done | omega)) only [go_sem, b1]; (repeat with_reducible refine aI ?_))
    refine ⟨?_, (by (repeat' first | assumption | exact St.Sub.refl _ | exact RowOk.sub (by assumption) (by assumption) | refine St.Sub.trans ?_ (RowOk.sub (by assumption) (by assumption)) | refine St.Sub.add ?_ ?_ _ | refine St.Sub.set ?_ ?_ ?_ _ | refine St.Sub.keep ?_ ?_ | refine St.WF.leave ?_ _ | refine St.WF.add ?_ _ | refine St.WF.set ?_ ?_ _ | refine St.WF.grow ?_ _ _ _ | refine St.WF.keep ?_ ?_ | (first | omega | (simp only [RowOk.lo, nx]; first | done | omega))))⟩
    rw [batchN, decide_eq_false h1]; rfl
theorem entries1_d (b : List UInt8) : DPure Try.prog 57 [encB b] (.v (.bool (badE b))) := by
  refine dpure_of_dwp mixed Try.func57 rfl (fun _ _ => by kernel_rfl) (rs := [.tmp 2]) rfl (by kernel_rfl) trivial (fun S hS => ?_)
  have e : encB b = .sl .no (b.map bD) := rfl
  rw [e]
  by_cases h1 : b.length = 0
  · have b1 : ((b.length : Int) == 0) = true := by simp [h1]
    (simp (disch := first | decide | omega | (simp only [nx]; first | done | omega)) only [go_sem, b1]; (repeat with_reducible refine aI ?_))
    refine ⟨?_, (by (repeat' first | assumption | exact St.Sub.refl _ | exact RowOk.sub (by assumption) (by assumption) | refine St.Sub.trans ?_ (RowOk.sub (by assumption) (by assumption)) | refine St.Sub.add ?_ ?_ _ | refine St.Sub.set ?_ ?_ ?_ _ | refine St.Sub.keep ?_ ?_ | refine St.WF.leave ?_ _ | refine St.WF.add ?_ _ | refine St.WF.set ?_ ?_ _ | refine St.WF.grow ?_ _ _ _ | refine St.WF.keep ?_ ?_ | (first | omega | (simp only [RowOk.lo, nx]; first | done | omega))))⟩
    rw [badE, decide_eq_true h1]; rfl
  · have b1 : ((b.length : Int) == 0) = false := beq_eq_false_iff_ne.2 (by omega)
    have b2 : decide ((b.length : Int) > 4096) = decide (4096 < b.length) := decide_eq_decide.2 (by omega)
    (simp (disch := first | decide | omega | (simp only [nx]; first | done | omega)) only [go_sem, b1, b2]; (repeat with_reducible refine aI ?_))
    refine ⟨?_, (by (repeat' first | assumption | exact St.Sub.refl _ | exact RowOk.sub (by assumption) (by assumption) | refine St.Sub.trans ?_ (RowOk.sub (by assumption) (by assumption)) | refine St.Sub.add ?_ ?_ _ | refine St.Sub.set ?_ ?_ ?_ _ | refine St.Sub.keep ?_ ?_ | refine St.WF.leave ?_ _ | refine St.WF.add ?_ _ | refine St.WF.set ?_ ?_ _ | refine St.WF.grow ?_ _ _ _ | refine St.WF.keep ?_ ?_ | (first | omega | (simp only [RowOk.lo, nx]; first | done | omega))))⟩
    rw [badE, decide_eq_false h1]; rfl
attribute [local go_sem] cells_encB List.length_singleton List.getD_cons_zero
theorem ixEs_at {S : St} {own : Own} {l : List (List UInt8)} {g : FuncId} {fs cs : List D} (p : (List UInt8) → Bool) (hl : l.length ≤ 1000000) (hc : ∀ x ∈ l, DSt Try.prog g (fs ++ [encB x] ++ cs) S (.v (.bool (p x)))) : DAt Try.prog 67 [.sl own (l.map encB), .fn (.func g) fs cs] S (.v (.int .i64 (ixOf p l))) := by
  refine dat_of_dwpL mixed Try.func67 rfl (fun _ _ => by kernel_rfl) (rs := [.tmp 4]) rfl (by kernel_rfl) (by trivial) (fun hS => ?_)
  (simp (disch := first | decide | omega | (simp only [nx]; first | done | omega)) only [go_sem]; (repeat with_reducible refine aI ?_))
  (refine dloop_st (fun t => List.contains [4, 5, 8, 9, 10, 11, 12, 13, 14, 15, 16, 17, 18] t) (by kernel_rfl) ?_ (l.length) (fun i f => i ≤ l.length ∧ f 8 = .v (.int .i64 (i : Nat)) ∧ (∀ j (h : j < l.length), j < i → p l[j] = false)) ?_ ?_; (exact (by (repeat' first | assumption | refine St.WF.leave ?_ _ | refine St.WF.add ?_ _ | refine St.WF.set ?_ ?_ _ | refine St.WF.grow ?_ _ _ _ | refine St.WF.keep ?_ ?_ | (first | omega | (simp only [RowOk.lo, nx]; first | done | omega))))); (exact ⟨(by omega), (by (first | (simp (disch := first | decide | omega | (simp only [nx]; first | done | omega)) only [go_sem]; first | done | rfl) | rfl)), (fun j _ h => absurd h (by omega))⟩); intro i g tn hn hT hg hI; obtain ⟨le, q8, hs⟩ := hI; have q0 := hg 0 rfl; have q1 := hg 1 rfl; have q7 := hg 7 rfl; simp (disch := first | decide | omega | (simp only [nx]; first | done | omega)) only [go_sem] at q0 q1 q7; clear hg; have hn' := hn; try simp only [add_next, set_next, grow_next, leave_next, drop_next] at hn')
  by_cases hlt : i < l.length
  · have b1 : decide ((i : Int) < (l.length : Int)) = true := decide_eq_true (by omega)
    have w1 : IntKind.i64.wrap ((i : Int) + 1) = ((i + 1 : Nat) : Int) := IntWalk.i64_in _ ⟨by omega, by omega⟩
    (simp (disch := first | decide | omega | (simp only [nx]; first | done | omega)) only [go_sem, q0, q1, q7, q8, b1, hlt]; (repeat with_reducible refine aI ?_))
    refine go_at (hc l[i] (List.getElem_mem _) ⟨tn, S.ob⟩ hn (fun _ _ h => h)) ?_
    cases hp : p l[i] with
    | false =>
      (simp (disch := first | decide | omega | (simp only [nx]; first | done | omega)) only [go_sem, q8, w1]; (repeat with_reducible refine aI ?_))
      refine ⟨by omega, ⟨hn, fun _ _ h => h⟩, by omega, ?_, fun j hj hji => ?_⟩
      · (first | (simp (disch := first | decide | omega | (simp only [nx]; first | done | omega)) only [go_sem, w1]; first | done | rfl) | rfl)
      · by_cases e : j = i
        · subst e; exact hp
        · exact hs j hj (by omega)
    | true =>
      (simp (disch := first | decide | omega | (simp only [nx]; first | done | omega)) only [go_sem]; (repeat with_reducible refine aI ?_))
      refine ⟨?_, ⟨hn, fun _ _ h => h⟩⟩
      rw [ixOf_at hlt hp hs]
      rfl
  · have b1 : decide ((i : Int) < (l.length : Int)) = false := decide_eq_false (by omega)
    (simp (disch := first | decide | omega | (simp only [nx]; first | done | omega)) only [go_sem, q7, q8, b1]; (repeat with_reducible refine aI ?_))
    refine ⟨?_, ⟨hn, fun _ _ h => h⟩⟩
    rw [ixOf_none fun j hj => hs j hj (by omega)]
    rfl
theorem anyEs_at {S : St} {own : Own} {l : List (List UInt8)} {g : FuncId} {fs cs : List D} (p : List UInt8 → Bool) (hl : l.length ≤ 1000000) (hc : ∀ x ∈ l, DSt Try.prog g (fs ++ [encB x] ++ cs) S (.v (.bool (p x)))) : DAt Try.prog 56 [.sl own (l.map encB), .fn (.func g) fs cs] S (.v (.bool (l.any p))) := by
  refine dat_of_dwpL mixed Try.func56 rfl (fun _ _ => by kernel_rfl) (rs := [.tmp 4]) rfl (by kernel_rfl) (by trivial) (fun hS => ?_)
  (simp (disch := first | decide | omega | (simp only [nx]; first | done | omega)) only [go_sem]; (repeat with_reducible refine aI ?_))
  refine go_at (ixEs_at p hl hc) ?_
  (simp (disch := first | decide | omega | (simp only [nx]; first | done | omega)) only [go_sem, ixOf_any]; (repeat with_reducible refine aI ?_))
  refine ⟨?_, (by (repeat' first | assumption | exact St.Sub.refl _ | exact RowOk.sub (by assumption) (by assumption) | refine St.Sub.trans ?_ (RowOk.sub (by assumption) (by assumption)) | refine St.Sub.add ?_ ?_ _ | refine St.Sub.set ?_ ?_ ?_ _ | refine St.Sub.keep ?_ ?_ | refine St.WF.leave ?_ _ | refine St.WF.add ?_ _ | refine St.WF.set ?_ ?_ _ | refine St.WF.grow ?_ _ _ _ | refine St.WF.keep ?_ ?_ | (first | omega | (simp only [RowOk.lo, nx]; first | done | omega))))⟩
  rfl
theorem entries_d (own : Own) (l : List (List UInt8)) (hl : l.length ≤ 1000000) : DPure Try.prog 39 [.sl own (l.map encB)] (.v (.bool (!(l.any badE)))) := fun S => by
  refine dat_of_dwpL mixed Try.func39 rfl (fun _ _ => by kernel_rfl) (rs := [.tmp 2]) rfl (by kernel_rfl) (by trivial) (fun hS => ?_)
  (simp (disch := first | decide | omega | (simp only [nx]; first | done | omega)) only [go_sem]; (repeat with_reducible refine aI ?_))
  refine go_at (anyEs_at badE hl fun x _ => (entries1_d x).st) ?_
  (simp (disch := first | decide | omega | (simp only [nx]; first | done | omega)) only [go_sem]; (repeat with_reducible refine aI ?_))
  refine ⟨?_, (by (repeat' first | assumption | exact St.Sub.refl _ | exact RowOk.sub (by assumption) (by assumption) | refine St.Sub.trans ?_ (RowOk.sub (by assumption) (by assumption)) | refine St.Sub.add ?_ ?_ _ | refine St.Sub.set ?_ ?_ ?_ _ | refine St.Sub.keep ?_ ?_ | refine St.WF.leave ?_ _ | refine St.WF.add ?_ _ | refine St.WF.set ?_ ?_ _ | refine St.WF.grow ?_ _ _ _ | refine St.WF.keep ?_ ?_ | (first | omega | (simp only [RowOk.lo, nx]; first | done | omega))))⟩
  rfl
theorem right25_d (m : DMs) (hi : m.ids.length ≤ 1000000) (he : m.es.length ≤ 1000000) : DPure Try.prog 17 [encMs m] (.v (.bool (rightM m))) := by
  refine dpure_of_dwp mixed Try.func17 rfl (fun _ _ => by kernel_rfl) (rs := [.tmp 2]) rfl (by kernel_rfl) trivial (fun S hS => ?_)
  have fin : ∀ {v : Bool}, v = rightM m → (D.v (.bool v)).frz = D.v (.bool (rightM m)) := fun h => by rw [h]; rfl
  (simp (disch := first | decide | omega | (simp only [nx]; first | done | omega)) only [go_sem]; (repeat with_reducible refine aI ?_))
  cases hr : m.r with
  | true =>
    have ho : otherM m = true := by rw [otherM, hr]; rfl
    (simp (disch := first | decide | omega | (simp only [nx]; first | done | omega)) only [go_sem]; (repeat with_reducible refine aI ?_))
    by_cases k1 : m.k = 1
    · have b1 : (m.k == 1) = true := by simp [k1]
      by_cases hl : m.ids.length ≤ 64
      · have b2 : decide ((m.ids.length : Int) ≤ 64) = true := decide_eq_true (by omega)
        (simp (disch := first | decide | omega | (simp only [nx]; first | done | omega)) only [go_sem, b1, b2]; (repeat with_reducible refine aI ?_))
        refine DCalls.of_pure (rising_d .no m.ids hi) ?_
        cases hrs : riseH m.ids with
        | true =>
          have b3 : ((m.es.length : Int) == 0) = decide (m.es = []) := lenZ m.es
          (simp (disch := first | decide | omega | (simp only [nx]; first | done | omega)) only [go_sem, b3]; (repeat with_reducible refine aI ?_))
          refine ⟨?_, (by (repeat' first | assumption | exact St.Sub.refl _ | exact RowOk.sub (by assumption) (by assumption) | refine St.Sub.trans ?_ (RowOk.sub (by assumption) (by assumption)) | refine St.Sub.add ?_ ?_ _ | refine St.Sub.set ?_ ?_ ?_ _ | refine St.Sub.keep ?_ ?_ | refine St.WF.leave ?_ _ | refine St.WF.add ?_ _ | refine St.WF.set ?_ ?_ _ | refine St.WF.grow ?_ _ _ _ | refine St.WF.keep ?_ ?_ | (first | omega | (simp only [RowOk.lo, nx]; first | done | omega))))⟩
          exact fin (by rw [rightM, if_pos k1, hrs, decide_eq_true hl]; rfl)
        | false =>
          (simp (disch := first | decide | omega | (simp only [nx]; first | done | omega)) only [go_sem]; (repeat with_reducible refine aI ?_))
          refine ⟨?_, (by (repeat' first | assumption | exact St.Sub.refl _ | exact RowOk.sub (by assumption) (by assumption) | refine St.Sub.trans ?_ (RowOk.sub (by assumption) (by assumption)) | refine St.Sub.add ?_ ?_ _ | refine St.Sub.set ?_ ?_ ?_ _ | refine St.Sub.keep ?_ ?_ | refine St.WF.leave ?_ _ | refine St.WF.add ?_ _ | refine St.WF.set ?_ ?_ _ | refine St.WF.grow ?_ _ _ _ | refine St.WF.keep ?_ ?_ | (first | omega | (simp only [RowOk.lo, nx]; first | done | omega))))⟩
          exact fin (by rw [rightM, if_pos k1, hrs, decide_eq_true hl]; rfl)
      · have b2 : decide ((m.ids.length : Int) ≤ 64) = false := decide_eq_false (by omega)
        (simp (disch := first | decide | omega | (simp only [nx]; first | done | omega)) only [go_sem, b1, b2]; (repeat with_reducible refine aI ?_))
        refine ⟨?_, (by (repeat' first | assumption | exact St.Sub.refl _ | exact RowOk.sub (by assumption) (by assumption) | refine St.Sub.trans ?_ (RowOk.sub (by assumption) (by assumption)) | refine St.Sub.add ?_ ?_ _ | refine St.Sub.set ?_ ?_ ?_ _ | refine St.Sub.keep ?_ ?_ | refine St.WF.leave ?_ _ | refine St.WF.add ?_ _ | refine St.WF.set ?_ ?_ _ | refine St.WF.grow ?_ _ _ _ | refine St.WF.keep ?_ ?_ | (first | omega | (simp only [RowOk.lo, nx]; first | done | omega))))⟩
        exact fin (by rw [rightM, if_pos k1, decide_eq_false hl]; rfl)
    · have b1 : (m.k == 1) = false := by simp [k1]
      by_cases k2 : m.k = 2
      · have b2 : (m.k == 2) = true := by simp [k2]
        (simp (disch := first | decide | omega | (simp only [nx]; first | done | omega)) only [go_sem, b1, b2]; (repeat with_reducible refine aI ?_))
        refine ⟨?_, (by (repeat' first | assumption | exact St.Sub.refl _ | exact RowOk.sub (by assumption) (by assumption) | refine St.Sub.trans ?_ (RowOk.sub (by assumption) (by assumption)) | refine St.Sub.add ?_ ?_ _ | refine St.Sub.set ?_ ?_ ?_ _ | refine St.Sub.keep ?_ ?_ | refine St.WF.leave ?_ _ | refine St.WF.add ?_ _ | refine St.WF.set ?_ ?_ _ | refine St.WF.grow ?_ _ _ _ | refine St.WF.keep ?_ ?_ | (first | omega | (simp only [RowOk.lo, nx]; first | done | omega))))⟩
        exact fin (by rw [rightM, if_neg k1, if_pos k2, ho]; rfl)
      · have b2 : (m.k == 2) = false := by simp [k2]
        by_cases k3 : m.k = 3
        · have b3 : (m.k == 3) = true := by simp [k3]
          (simp (disch := first | decide | omega | (simp only [nx]; first | done | omega)) only [go_sem, b1, b2, b3]; (repeat with_reducible refine aI ?_))
          refine ⟨?_, (by (repeat' first | assumption | exact St.Sub.refl _ | exact RowOk.sub (by assumption) (by assumption) | refine St.Sub.trans ?_ (RowOk.sub (by assumption) (by assumption)) | refine St.Sub.add ?_ ?_ _ | refine St.Sub.set ?_ ?_ ?_ _ | refine St.Sub.keep ?_ ?_ | refine St.WF.leave ?_ _ | refine St.WF.add ?_ _ | refine St.WF.set ?_ ?_ _ | refine St.WF.grow ?_ _ _ _ | refine St.WF.keep ?_ ?_ | (first | omega | (simp only [RowOk.lo, nx]; first | done | omega))))⟩
          exact fin (by rw [rightM, if_neg k1, if_neg k2, if_pos k3, ho]; rfl)
        · have b3 : (m.k == 3) = false := by simp [k3]
          (simp (disch := first | decide | omega | (simp only [nx]; first | done | omega)) only [go_sem, b1, b2, b3]; (repeat with_reducible refine aI ?_))
          refine ⟨?_, (by (repeat' first | assumption | exact St.Sub.refl _ | exact RowOk.sub (by assumption) (by assumption) | refine St.Sub.trans ?_ (RowOk.sub (by assumption) (by assumption)) | refine St.Sub.add ?_ ?_ _ | refine St.Sub.set ?_ ?_ ?_ _ | refine St.Sub.keep ?_ ?_ | refine St.WF.leave ?_ _ | refine St.WF.add ?_ _ | refine St.WF.set ?_ ?_ _ | refine St.WF.grow ?_ _ _ _ | refine St.WF.keep ?_ ?_ | (first | omega | (simp only [RowOk.lo, nx]; first | done | omega))))⟩
          exact fin (by rw [rightM, if_neg k1, if_neg k2, if_neg k3])
  | false =>
    by_cases hz : m.f = zF
    · have ho : otherM m = false := by rw [otherM, hr, decide_eq_true hz]; rfl
      have z0 : decide (m.f = zF) = true := decide_eq_true hz
      (simp (disch := first | decide | omega | (simp only [nx]; first | done | omega)) only [go_sem, placeF, agg_zF, z0]; (repeat with_reducible refine aI ?_))
      by_cases k1 : m.k = 1
      · have b1 : (m.k == 1) = true := by simp [k1]
        by_cases hl : m.ids.length ≤ 64
        · have b2 : decide ((m.ids.length : Int) ≤ 64) = true := decide_eq_true (by omega)
          (simp (disch := first | decide | omega | (simp only [nx]; first | done | omega)) only [go_sem, b1, b2]; (repeat with_reducible refine aI ?_))
          refine DCalls.of_pure (rising_d .no m.ids hi) ?_
          cases hrs : riseH m.ids with
          | true =>
            have b3 : ((m.es.length : Int) == 0) = decide (m.es = []) := lenZ m.es
            (simp (disch := first | decide | omega | (simp only [nx]; first | done | omega)) only [go_sem, b3]; (repeat with_reducible refine aI ?_))
            refine ⟨?_, (by (repeat' first | assumption | exact St.Sub.refl _ | exact RowOk.sub (by assumption) (by assumption) | refine St.Sub.trans ?_ (RowOk.sub (by assumption) (by assumption)) | refine St.Sub.add ?_ ?_ _ | refine St.Sub.set ?_ ?_ ?_ _ | refine St.Sub.keep ?_ ?_ | refine St.WF.leave ?_ _ | refine St.WF.add ?_ _ | refine St.WF.set ?_ ?_ _ | refine St.WF.grow ?_ _ _ _ | refine St.WF.keep ?_ ?_ | (first | omega | (simp only [RowOk.lo, nx]; first | done | omega))))⟩
            exact fin (by rw [rightM, if_pos k1, hrs, decide_eq_true hl]; rfl)
          | false =>
            (simp (disch := first | decide | omega | (simp only [nx]; first | done | omega)) only [go_sem]; (repeat with_reducible refine aI ?_))
            refine ⟨?_, (by (repeat' first | assumption | exact St.Sub.refl _ | exact RowOk.sub (by assumption) (by assumption) | refine St.Sub.trans ?_ (RowOk.sub (by assumption) (by assumption)) | refine St.Sub.add ?_ ?_ _ | refine St.Sub.set ?_ ?_ ?_ _ | refine St.Sub.keep ?_ ?_ | refine St.WF.leave ?_ _ | refine St.WF.add ?_ _ | refine St.WF.set ?_ ?_ _ | refine St.WF.grow ?_ _ _ _ | refine St.WF.keep ?_ ?_ | (first | omega | (simp only [RowOk.lo, nx]; first | done | omega))))⟩
            exact fin (by rw [rightM, if_pos k1, hrs, decide_eq_true hl]; rfl)
        · have b2 : decide ((m.ids.length : Int) ≤ 64) = false := decide_eq_false (by omega)
          (simp (disch := first | decide | omega | (simp only [nx]; first | done | omega)) only [go_sem, b1, b2]; (repeat with_reducible refine aI ?_))
          refine ⟨?_, (by (repeat' first | assumption | exact St.Sub.refl _ | exact RowOk.sub (by assumption) (by assumption) | refine St.Sub.trans ?_ (RowOk.sub (by assumption) (by assumption)) | refine St.Sub.add ?_ ?_ _ | refine St.Sub.set ?_ ?_ ?_ _ | refine St.Sub.keep ?_ ?_ | refine St.WF.leave ?_ _ | refine St.WF.add ?_ _ | refine St.WF.set ?_ ?_ _ | refine St.WF.grow ?_ _ _ _ | refine St.WF.keep ?_ ?_ | (first | omega | (simp only [RowOk.lo, nx]; first | done | omega))))⟩
          exact fin (by rw [rightM, if_pos k1, decide_eq_false hl]; rfl)
      · have b1 : (m.k == 1) = false := by simp [k1]
        by_cases k2 : m.k = 2
        · have b2 : (m.k == 2) = true := by simp [k2]
          (simp (disch := first | decide | omega | (simp only [nx]; first | done | omega)) only [go_sem, b1, b2]; (repeat with_reducible refine aI ?_))
          refine DCalls.of_pure (batch_d m.ids.length (by omega)) ?_
          cases hbt : batchN m.ids.length with
          | true =>
            (simp (disch := first | decide | omega | (simp only [nx]; first | done | omega)) only [go_sem]; (repeat with_reducible refine aI ?_))
            refine DCalls.of_pure (rising_d .no m.ids hi) ?_
            cases hrs : riseH m.ids with
            | true =>
              have b4 : ((m.es.length : Int) == 0) = decide (m.es = []) := lenZ m.es
              (simp (disch := first | decide | omega | (simp only [nx]; first | done | omega)) only [go_sem, b4]; (repeat with_reducible refine aI ?_))
              refine ⟨?_, (by (repeat' first | assumption | exact St.Sub.refl _ | exact RowOk.sub (by assumption) (by assumption) | refine St.Sub.trans ?_ (RowOk.sub (by assumption) (by assumption)) | refine St.Sub.add ?_ ?_ _ | refine St.Sub.set ?_ ?_ ?_ _ | refine St.Sub.keep ?_ ?_ | refine St.WF.leave ?_ _ | refine St.WF.add ?_ _ | refine St.WF.set ?_ ?_ _ | refine St.WF.grow ?_ _ _ _ | refine St.WF.keep ?_ ?_ | (first | omega | (simp only [RowOk.lo, nx]; first | done | omega))))⟩
              exact fin (by rw [rightM, if_neg k1, if_pos k2, ho, hbt, hrs]; rfl)
            | false =>
              (simp (disch := first | decide | omega | (simp only [nx]; first | done | omega)) only [go_sem]; (repeat with_reducible refine aI ?_))
              refine ⟨?_, (by (repeat' first | assumption | exact St.Sub.refl _ | exact RowOk.sub (by assumption) (by assumption) | refine St.Sub.trans ?_ (RowOk.sub (by assumption) (by assumption)) | refine St.Sub.add ?_ ?_ _ | refine St.Sub.set ?_ ?_ ?_ _ | refine St.Sub.keep ?_ ?_ | refine St.WF.leave ?_ _ | refine St.WF.add ?_ _ | refine St.WF.set ?_ ?_ _ | refine St.WF.grow ?_ _ _ _ | refine St.WF.keep ?_ ?_ | (first | omega | (simp only [RowOk.lo, nx]; first | done | omega))))⟩
              exact fin (by rw [rightM, if_neg k1, if_pos k2, ho, hbt, hrs]; rfl)
          | false =>
            (simp (disch := first | decide | omega | (simp only [nx]; first | done | omega)) only [go_sem]; (repeat with_reducible refine aI ?_))
            refine ⟨?_, (by (repeat' first | assumption | exact St.Sub.refl _ | exact RowOk.sub (by assumption) (by assumption) | refine St.Sub.trans ?_ (RowOk.sub (by assumption) (by assumption)) | refine St.Sub.add ?_ ?_ _ | refine St.Sub.set ?_ ?_ ?_ _ | refine St.Sub.keep ?_ ?_ | refine St.WF.leave ?_ _ | refine St.WF.add ?_ _ | refine St.WF.set ?_ ?_ _ | refine St.WF.grow ?_ _ _ _ | refine St.WF.keep ?_ ?_ | (first | omega | (simp only [RowOk.lo, nx]; first | done | omega))))⟩
            exact fin (by rw [rightM, if_neg k1, if_pos k2, ho, hbt]; rfl)
        · have b2 : (m.k == 2) = false := by simp [k2]
          by_cases k3 : m.k = 3
          · have b3 : (m.k == 3) = true := by simp [k3]
            by_cases hi0 : m.ids = []
            · have b4 : ((m.ids.length : Int) == 0) = true := by rw [lenZ, decide_eq_true hi0]
              (simp (disch := first | decide | omega | (simp only [nx]; first | done | omega)) only [go_sem, b1, b2, b3, b4]; (repeat with_reducible refine aI ?_))
              refine DCalls.of_pure (batch_d m.es.length (by omega)) ?_
              cases hbt : batchN m.es.length with
              | true =>
                (simp (disch := first | decide | omega | (simp only [nx]; first | done | omega)) only [go_sem]; (repeat with_reducible refine aI ?_))
                refine DCalls.of_pure (entries_d .no m.es he) ?_
                (simp (disch := first | decide | omega | (simp only [nx]; first | done | omega)) only [go_sem]; (repeat with_reducible refine aI ?_))
                refine ⟨?_, (by (repeat' first | assumption | exact St.Sub.refl _ | exact RowOk.sub (by assumption) (by assumption) | refine St.Sub.trans ?_ (RowOk.sub (by assumption) (by assumption)) | refine St.Sub.add ?_ ?_ _ | refine St.Sub.set ?_ ?_ ?_ _ | refine St.Sub.keep ?_ ?_ | refine St.WF.leave ?_ _ | refine St.WF.add ?_ _ | refine St.WF.set ?_ ?_ _ | refine St.WF.grow ?_ _ _ _ | refine St.WF.keep ?_ ?_ | (first | omega | (simp only [RowOk.lo, nx]; first | done | omega))))⟩
                exact fin (by rw [rightM, if_neg k1, if_neg k2, if_pos k3, ho, hbt, decide_eq_true hi0]; simp)
              | false =>
                (simp (disch := first | decide | omega | (simp only [nx]; first | done | omega)) only [go_sem]; (repeat with_reducible refine aI ?_))
                refine ⟨?_, (by (repeat' first | assumption | exact St.Sub.refl _ | exact RowOk.sub (by assumption) (by assumption) | refine St.Sub.trans ?_ (RowOk.sub (by assumption) (by assumption)) | refine St.Sub.add ?_ ?_ _ | refine St.Sub.set ?_ ?_ ?_ _ | refine St.Sub.keep ?_ ?_ | refine St.WF.leave ?_ _ | refine St.WF.add ?_ _ | refine St.WF.set ?_ ?_ _ | refine St.WF.grow ?_ _ _ _ | refine St.WF.keep ?_ ?_ | (first | omega | (simp only [RowOk.lo, nx]; first | done | omega))))⟩
                exact fin (by rw [rightM, if_neg k1, if_neg k2, if_pos k3, ho, hbt, decide_eq_true hi0]; rfl)
            · have b4 : ((m.ids.length : Int) == 0) = false := by rw [lenZ, decide_eq_false hi0]
              (simp (disch := first | decide | omega | (simp only [nx]; first | done | omega)) only [go_sem, b1, b2, b3, b4]; (repeat with_reducible refine aI ?_))
              refine ⟨?_, (by (repeat' first | assumption | exact St.Sub.refl _ | exact RowOk.sub (by assumption) (by assumption) | refine St.Sub.trans ?_ (RowOk.sub (by assumption) (by assumption)) | refine St.Sub.add ?_ ?_ _ | refine St.Sub.set ?_ ?_ ?_ _ | refine St.Sub.keep ?_ ?_ | refine St.WF.leave ?_ _ | refine St.WF.add ?_ _ | refine St.WF.set ?_ ?_ _ | refine St.WF.grow ?_ _ _ _ | refine St.WF.keep ?_ ?_ | (first | omega | (simp only [RowOk.lo, nx]; first | done | omega))))⟩
              exact fin (by rw [rightM, if_neg k1, if_neg k2, if_pos k3, ho, decide_eq_false hi0]; rfl)
          · have b3 : (m.k == 3) = false := by simp [k3]
            (simp (disch := first | decide | omega | (simp only [nx]; first | done | omega)) only [go_sem, b1, b2, b3]; (repeat with_reducible refine aI ?_))
            refine ⟨?_, (by (repeat' first | assumption | exact St.Sub.refl _ | exact RowOk.sub (by assumption) (by assumption) | refine St.Sub.trans ?_ (RowOk.sub (by assumption) (by assumption)) | refine St.Sub.add ?_ ?_ _ | refine St.Sub.set ?_ ?_ ?_ _ | refine St.Sub.keep ?_ ?_ | refine St.WF.leave ?_ _ | refine St.WF.add ?_ _ | refine St.WF.set ?_ ?_ _ | refine St.WF.grow ?_ _ _ _ | refine St.WF.keep ?_ ?_ | (first | omega | (simp only [RowOk.lo, nx]; first | done | omega))))⟩
            exact fin (by rw [rightM, if_neg k1, if_neg k2, if_neg k3])
    · have ho : otherM m = true := by rw [otherM, hr, decide_eq_false hz]; rfl
      have z0 : decide (m.f = zF) = false := decide_eq_false hz
      (simp (disch := first | decide | omega | (simp only [nx]; first | done | omega)) only [go_sem, placeF, agg_zF, z0]; (repeat with_reducible refine aI ?_))
      by_cases k1 : m.k = 1
      · have b1 : (m.k == 1) = true := by simp [k1]
        by_cases hl : m.ids.length ≤ 64
        · have b2 : decide ((m.ids.length : Int) ≤ 64) = true := decide_eq_true (by omega)
          (simp (disch := first | decide | omega | (simp only [nx]; first | done | omega)) only [go_sem, b1, b2]; (repeat with_reducible refine aI ?_))
          refine DCalls.of_pure (rising_d .no m.ids hi) ?_
          cases hrs : riseH m.ids with
          | true =>
            have b3 : ((m.es.length : Int) == 0) = decide (m.es = []) := lenZ m.es
            (simp (disch := first | decide | omega | (simp only [nx]; first | done | omega)) only [go_sem, b3]; (repeat with_reducible refine aI ?_))
            refine ⟨?_, (by (repeat' first | assumption | exact St.Sub.refl _ | exact RowOk.sub (by assumption) (by assumption) | refine St.Sub.trans ?_ (RowOk.sub (by assumption) (by assumption)) | refine St.Sub.add ?_ ?_ _ | refine St.Sub.set ?_ ?_ ?_ _ | refine St.Sub.keep ?_ ?_ | refine St.WF.leave ?_ _ | refine St.WF.add ?_ _ | refine St.WF.set ?_ ?_ _ | refine St.WF.grow ?_ _ _ _ | refine St.WF.keep ?_ ?_ | (first | omega | (simp only [RowOk.lo, nx]; first | done | omega))))⟩
            exact fin (by rw [rightM, if_pos k1, hrs, decide_eq_true hl]; rfl)
          | false =>
            (simp (disch := first | decide | omega | (simp only [nx]; first | done | omega)) only [go_sem]; (repeat with_reducible refine aI ?_))
            refine ⟨?_, (by (repeat' first | assumption | exact St.Sub.refl _ | exact RowOk.sub (by assumption) (by assumption) | refine St.Sub.trans ?_ (RowOk.sub (by assumption) (by assumption)) | refine St.Sub.add ?_ ?_ _ | refine St.Sub.set ?_ ?_ ?_ _ | refine St.Sub.keep ?_ ?_ | refine St.WF.leave ?_ _ | refine St.WF.add ?_ _ | refine St.WF.set ?_ ?_ _ | refine St.WF.grow ?_ _ _ _ | refine St.WF.keep ?_ ?_ | (first | omega | (simp only [RowOk.lo, nx]; first | done | omega))))⟩
            exact fin (by rw [rightM, if_pos k1, hrs, decide_eq_true hl]; rfl)
        · have b2 : decide ((m.ids.length : Int) ≤ 64) = false := decide_eq_false (by omega)
          (simp (disch := first | decide | omega | (simp only [nx]; first | done | omega)) only [go_sem, b1, b2]; (repeat with_reducible refine aI ?_))
          refine ⟨?_, (by (repeat' first | assumption | exact St.Sub.refl _ | exact RowOk.sub (by assumption) (by assumption) | refine St.Sub.trans ?_ (RowOk.sub (by assumption) (by assumption)) | refine St.Sub.add ?_ ?_ _ | refine St.Sub.set ?_ ?_ ?_ _ | refine St.Sub.keep ?_ ?_ | refine St.WF.leave ?_ _ | refine St.WF.add ?_ _ | refine St.WF.set ?_ ?_ _ | refine St.WF.grow ?_ _ _ _ | refine St.WF.keep ?_ ?_ | (first | omega | (simp only [RowOk.lo, nx]; first | done | omega))))⟩
          exact fin (by rw [rightM, if_pos k1, decide_eq_false hl]; rfl)
      · have b1 : (m.k == 1) = false := by simp [k1]
        by_cases k2 : m.k = 2
        · have b2 : (m.k == 2) = true := by simp [k2]
          (simp (disch := first | decide | omega | (simp only [nx]; first | done | omega)) only [go_sem, b1, b2]; (repeat with_reducible refine aI ?_))
          refine ⟨?_, (by (repeat' first | assumption | exact St.Sub.refl _ | exact RowOk.sub (by assumption) (by assumption) | refine St.Sub.trans ?_ (RowOk.sub (by assumption) (by assumption)) | refine St.Sub.add ?_ ?_ _ | refine St.Sub.set ?_ ?_ ?_ _ | refine St.Sub.keep ?_ ?_ | refine St.WF.leave ?_ _ | refine St.WF.add ?_ _ | refine St.WF.set ?_ ?_ _ | refine St.WF.grow ?_ _ _ _ | refine St.WF.keep ?_ ?_ | (first | omega | (simp only [RowOk.lo, nx]; first | done | omega))))⟩
          exact fin (by rw [rightM, if_neg k1, if_pos k2, ho]; rfl)
        · have b2 : (m.k == 2) = false := by simp [k2]
          by_cases k3 : m.k = 3
          · have b3 : (m.k == 3) = true := by simp [k3]
            (simp (disch := first | decide | omega | (simp only [nx]; first | done | omega)) only [go_sem, b1, b2, b3]; (repeat with_reducible refine aI ?_))
            refine ⟨?_, (by (repeat' first | assumption | exact St.Sub.refl _ | exact RowOk.sub (by assumption) (by assumption) | refine St.Sub.trans ?_ (RowOk.sub (by assumption) (by assumption)) | refine St.Sub.add ?_ ?_ _ | refine St.Sub.set ?_ ?_ ?_ _ | refine St.Sub.keep ?_ ?_ | refine St.WF.leave ?_ _ | refine St.WF.add ?_ _ | refine St.WF.set ?_ ?_ _ | refine St.WF.grow ?_ _ _ _ | refine St.WF.keep ?_ ?_ | (first | omega | (simp only [RowOk.lo, nx]; first | done | omega))))⟩
            exact fin (by rw [rightM, if_neg k1, if_neg k2, if_pos k3, ho]; rfl)
          · have b3 : (m.k == 3) = false := by simp [k3]
            (simp (disch := first | decide | omega | (simp only [nx]; first | done | omega)) only [go_sem, b1, b2, b3]; (repeat with_reducible refine aI ?_))
            refine ⟨?_, (by (repeat' first | assumption | exact St.Sub.refl _ | exact RowOk.sub (by assumption) (by assumption) | refine St.Sub.trans ?_ (RowOk.sub (by assumption) (by assumption)) | refine St.Sub.add ?_ ?_ _ | refine St.Sub.set ?_ ?_ ?_ _ | refine St.Sub.keep ?_ ?_ | refine St.WF.leave ?_ _ | refine St.WF.add ?_ _ | refine St.WF.set ?_ ?_ _ | refine St.WF.grow ?_ _ _ _ | refine St.WF.keep ?_ ?_ | (first | omega | (simp only [RowOk.lo, nx]; first | done | omega))))⟩
            exact fin (by rw [rightM, if_neg k1, if_neg k2, if_neg k3])
end
end Go.Proofs.Ytonncfminojejaa

namespace Go.Proofs.Ytonncfminojejaa
open Go.RowKit

/-! ### What is shown of code stands in a round's frame too -/
def noDefer (o : Oper) : Bool := match o.op with
  | .defer _ => false
  | _ => true
theorem noDefer_spec {o : Oper} (h : noDefer o = true) : ∀ c, o.op ≠ .defer c := fun c e => by rw [noDefer, e] at h; cases h
def plainC : Code → Bool
  | .region _ ops _ => ops.all noDefer
  | .seq x y => plainC x && plainC y
  | .cond _ x y => plainC x && plainC y
  | .block _ c => plainC c
  | .skip => true
  | .label _ => true
  | .exit _ => true
  | _ => false
section
variable {P : Program} {l n : Nat} {Q : Exit → Act → World → Prop} {ops : Array Oper} {md : Region.Mode}
theorem rowsIn_wide {row : String} {args : Array Value} {w : World} {R : Value → World → Prop} (h : Rows P row args w R) : RowsIn (Fence.wide.inRound l) n P row args w R :=
  fun c cs _ => let ⟨v, w', r, s⟩ := h c cs; ⟨v, w', r, stepsIn_wide.2 s⟩
theorem callsIn_round {f : FuncId} {args : Array Value} {w : World} {R : Ending → World → Prop} (h : Calls P f args w R) : CallsIn (Fence.wide.inRound l) n P f args w R := (callsIn_wide (n := n)).2 h
theorem uponIn_of {o : Oper} {a : Act} {next : Act → World → Prop} {r : Result Next} (h : o.upon P a next Q r) : o.uponIn (Fence.wide.inRound l) n P a next Q r := by
  cases r with
  | ok x w' =>
    cases x <;> simp only [Oper.upon, Oper.uponIn] at h ⊢ <;>
      first
        | exact h
        | exact ⟨(fun e => by cases e), callsIn_round (h.mono fun e w'' he => by cases e <;> exact he)⟩
        | exact ⟨(fun e => by cases e), rowsIn_wide h⟩
  | halt x w' => cases x <;> simp only [Oper.upon, Oper.uponIn] at h ⊢ <;> exact h
theorem opIn_of {o : Oper} {a : Act} {w : World} {next : Act → World → Prop} (hd : noDefer o = true) (hQ : ¬ LetsOut Q) (h : o.wp P a w next Q ∨ (o.asks P a w ∧ LetsOut Q)) : o.wpIn (Fence.wide.inRound l) n P a w next Q := by
  rcases h with h | h
  · refine ⟨fun _ _ => trivial, ?_⟩
    rw [Oper.semAt_eq _ _ _ (noDefer_spec hd)]
    exact uponIn_of h
  · exact absurd h.2 hQ
theorem anyIn_of (hd : ∀ (j : Nat) (o : Oper), ops[j]? = some o → noDefer o = true) (hQ : ¬ LetsOut Q) : ∀ (fuel : Nat) (L : Array Bool) (a : Act) (w : World), wpAny P md ops Q fuel L a w → wpAnyIn (Fence.wide.inRound l) n P md ops Q fuel L a w
  | 0, _, _, _, h => h
  | fuel + 1, L, a, w, h => by
    refine ⟨h.1, fun i hi => ?_⟩
    have h2 := h.2 i hi
    have ih := fun a w => anyIn_of hd hQ fuel (L.setIfInBounds i true) a w
    unfold wpOp at h2
    unfold wpOpIn
    cases ho : ops[i]? with
    | none => rw [ho] at h2; exact ih _ _ h2
    | some o =>
      rw [ho] at h2
      simp only at h2 ⊢
      split
      · rename_i hw
        rw [if_pos hw] at h2
        exact opIn_of (hd i o ho) hQ (h2.imp (Oper.wp_mono ih) id)
      · rename_i hw
        rw [if_neg hw] at h2
        exact ⟨fun _ _ => trivial, ih _ _ h2⟩
theorem listIn_of (hQ : ¬ LetsOut Q) : ∀ (r : List Oper) (a : Act) (w : World), (∀ o ∈ r, noDefer o = true) → wpList P ops Q r a w → wpListIn (Fence.wide.inRound l) n P ops Q r a w
  | [], _, _, _, h => h
  | o :: r, a, w, hd, h => by
    have ih := fun a w => listIn_of hQ r a w fun o ho => hd o (List.mem_cons_of_mem _ ho)
    unfold wpList at h
    unfold wpListIn
    split
    · rename_i hw
      rw [if_pos hw] at h
      exact opIn_of (hd o (List.mem_cons_self ..)) hQ (h.imp (Oper.wp_mono ih) id)
    · rename_i hw
      rw [if_neg hw] at h
      exact ⟨fun _ _ => trivial, ih _ _ h⟩
theorem any_whole {l : List Oper} (n : Nat) {Q : Exit → Act → World → Prop} {a : Act} {w : World} (hB : heldTailB l n = true)
    (h : wpAny P .any (l.take n).toArray (Exit.then (fun a w => wpList P l.toArray Q (l.drop n) a w) Q) (l.take n).toArray.size (Array.replicate (l.take n).toArray.size false) a w) : wpAny P .any l.toArray Q l.toArray.size (Array.replicate l.toArray.size false) a w := by
  simp only [heldTailB, Bool.and_eq_true, decide_eq_true_eq] at hB
  obtain ⟨⟨⟨⟨hn, hs⟩, hc⟩, hb⟩, hq⟩ := hB
  have htl : (l.take n).toArray.size = n := by simp; omega
  rw [htl] at h
  have e : Array.replicate l.toArray.size false = Array.replicate n false ++ Array.replicate (l.length - n) false := by
    rw [Array.replicate_append_replicate]; congr 1; simp; omega
  have inv0 : HeadInv .any l.toArray n (Array.replicate n false ++ Array.replicate (l.length - n) false) := by
    rw [← e]
    exact ⟨by simp, fun j oj _ hl => (by rw [getD_replicate_false] at hl; cases hl), fun t _ ht => getD_in (by simpa using ht) (getD_replicate_false _ _)⟩
  have := wpAny_tail hn hs hc hb hq n (Array.replicate n false) a w inv0 (by simp) h
  rw [e]
  rw [show n + (l.length - n) = l.toArray.size by simp; omega] at this
  exact this
end
section
variable {P : Program} {base : Nat} {S : St} {η : Names} {w : World} {f : Fm} {a : Act}
theorem ddraw_any_sound {l : List Oper} {Q : Fm → St → Prop} {Q' : Exit → Act → World → Prop} (hok : ∀ o ∈ l, operOk a.tmps.size l.toArray o = true) (hM : Mem P base S η w) (hf : RepF P w η (Fix P S η) f a) (h : ddraw P l Q f S)
    (hq : ∀ f' S' η' w' a', Q f' S' → Goes P base S η w S' η' w' → RepF P w' η' (Fix P S' η') f' a' → a'.tmps.size = a.tmps.size → a'.defers = a.defers → Q' .normal a' w') : wpAny P .any l.toArray Q' l.toArray.size (Array.replicate l.toArray.size false) a w.drew := by
  have hokn : ∀ n, ∀ (j : Nat) (o : Oper), (l.take n).toArray[j]? = some o → operOk a.tmps.size (l.take n).toArray o = true := fun n j o ho => operOk_take (hok o (by
    have := List.mem_of_getElem? (show (l.take n)[j]? = some o by simpa using ho)
    exact List.mem_of_mem_take this))
  have G0 := goes_drew hM
  rcases h with ⟨n, hn, hh⟩ | ⟨Zs, n, hZ, hn, hh⟩
  rotate_left
  · simp only [Bool.or_eq_true, beq_iff_eq] at hn
    rcases hn with hn | hn
    · have hl : l.take n = l := by rw [hn, List.take_length]
      have hd : l.drop n = [] := by rw [hn, List.drop_length]
      have hokl := hokn n
      rw [hl] at hh hokl
      refine sAny_sound (w := w.drew) hokl l.toArray.size _ hZ G0.mem (G0.repF hf) rfl hh fun f' S' η' w' a' g1 g2 g3 g4 g5 => ?_
      rw [hd] at g1
      exact hq f' S' η' w' a' g1 (G0.trans g2) g3 g4 g5
    · refine any_whole n hn ?_
      have := sAny_sound (Q' := Exit.then (fun a w => wpList P l.toArray Q' (l.drop n) a w) Q') (hokn n) (l.take n).toArray.size (Array.replicate (l.take n).toArray.size false) hZ G0.mem (G0.repF hf) rfl hh fun f' S1 η' w' a' g1 g2 g3 g4 g5 => by
        refine dops_sound (l.drop n) (fun o ho => by rw [g4]; exact hok o (List.mem_of_mem_drop ho)) g2.mem g3 g1 fun f'' S'' η'' w'' a'' k1 k2 k3 k4 k5 => ?_
        exact hq f'' S'' η'' w'' a'' k1 ((G0.trans g2).trans k2) k3 (by rw [k4, g4]) (by rw [k5, g5])
      exact this
  simp only [drawOk, Bool.and_eq_true, Bool.or_eq_true, beq_iff_eq] at hn
  obtain ⟨hlex, hn⟩ := hn
  simp only [Region.lexB, Bool.and_eq_true] at hlex
  have hany := hAny_lex (l.take n) 0 (Array.replicate (l.take n).toArray.size false) f none (by simp) (by simpa using hlex.2) hh
  have hok' := hokn n
  rcases hn with hn | hn
  · subst hn
    rw [List.take_length] at hany hok'
    refine wpAny_of_head (u := none) (w := w.drew) hM.fresh hok' l.toArray.size _ G0.mem (G0.repF hf) rfl (by simpa using hany) fun f' u' η' w' a' g1 g2 g3 g4 g5 => ?_
    have g1' : Q f' (after S u') := by simpa [dops, dops2] using g1
    exact hq f' (after S u') η' w' a' g1' (G0.trans g2) g3 g4 g5
  · refine any_whole n hn ?_
    have := wpAny_of_head (u := none) (Q' := Exit.then (fun a w => wpList P l.toArray Q' (l.drop n) a w) Q') hM.fresh hok' (l.take n).toArray.size (Array.replicate (l.take n).toArray.size false) G0.mem (G0.repF hf) rfl (by simpa using hany) fun f' u' η' w' a' g1 g2 g3 g4 g5 => by
      refine dops_sound (l.drop n) (fun o ho => by rw [g4]; exact hok o (List.mem_of_mem_drop ho)) g2.mem g3 g1 fun f'' S'' η'' w'' a'' k1 k2 k3 k4 k5 => ?_
      exact hq f'' S'' η'' w'' a'' k1 ((G0.trans g2).trans k2) k3 (by rw [k4, g4]) (by rw [k5, g5])
    exact this
theorem dwpN_sound (hm : P.follows .mixedOrders = true) {l n : Nat} : ∀ (c : Code) {Q : DQ} {S : St} {η : Names} {w : World} {f : Fm} {a : Act} {Q' : Exit → Act → World → Prop}, plainC c = true → codeOk a.tmps.size c = true → Mem P base S η w → RepF P w η (Fix P S η) f a → dwp P c Q f S → ¬ LetsOut Q' →
    (∀ e f' S' η' w' a', Q e f' S' → Goes P base S η w S' η' w' → RepF P w' η' (Fix P S' η') f' a' → a'.tmps.size = a.tmps.size → a'.defers = a.defers → Q' e.up a' w') → c.wpIn (Fence.wide.inRound l) n P Q' a w := by
  intro c
  induction c with
  | skip => intro Q S η w f a Q' _ _ hM hf h _ hq; exact wpIn_skip (hq .normal f S η w a h (Goes.refl hM) hf rfl rfl)
  | label l => intro Q S η w f a Q' _ _ hM hf h _ hq; exact wpIn_label (hq .normal f S η w a h (Goes.refl hM) hf rfl rfl)
  | exit id => intro Q S η w f a Q' _ _ hM hf h _ hq; exact wpIn_exit (hq (.exit id) f S η w a h (Goes.refl hM) hf rfl rfl)
  | region id ops draw =>
    intro Q S η w f a Q' hp hok hM hf h hQ hq
    have hok' : ∀ o ∈ ops.toList, operOk a.tmps.size ops o = true := fun o ho => Array.all_eq_true_iff_forall_mem.1 hok o (by simpa using ho)
    have hd : ∀ o ∈ ops.toList, noDefer o = true := fun o ho => Array.all_eq_true_iff_forall_mem.1 hp o (by simpa using ho)
    cases draw with
    | false => exact wpIn_region_list (listIn_of hQ _ _ _ hd (dops_sound ops.toList hok' hM hf h fun f' S' η' w' a' k1 k2 k3 k4 k5 => hq .normal f' S' η' w' a' k1 k2 k3 k4 k5))
    | true =>
      have := ddraw_any_sound (Q' := Q') (l := ops.toList) hok' hM hf h fun f' S' η' w' a' k1 k2 k3 k4 k5 => hq .normal f' S' η' w' a' k1 k2 k3 k4 k5
      exact wpIn_region_any hm (anyIn_of (fun j o ho => hd o (List.mem_of_getElem? (by simpa using ho))) hQ _ _ _ _ this)
  | seq x y ihx ihy =>
    intro Q S η w f a Q' hp hok hM hf h hQ hq
    simp only [codeOk, plainC, Bool.and_eq_true] at hok hp
    refine wpIn_seq (ihx hp.1 hok.1 hM hf h (fun ⟨a, w, h⟩ => hQ ⟨a, w, h⟩) fun e f' S' η' w' a' k1 k2 k3 k4 k5 => ?_)
    cases e with
    | normal =>
      exact ihy hp.2 (by rw [k4]; exact hok.2) k2.mem k3 k1 hQ fun e f'' S'' η'' w'' a'' g1 g2 g3 g4 g5 => hq e f'' S'' η'' w'' a'' g1 (k2.trans g2) g3 (by rw [g4, k4]) (by rw [g5, k5])
    | exit i => exact hq (.exit i) f' S' η' w' a' k1 k2 k3 k4 k5
    | ret => exact hq .ret f' S' η' w' a' k1 k2 k3 k4 k5
  | cond g x y ihx ihy =>
    intro Q S η w f a Q' hp hok hM hf h hQ hq
    simp only [codeOk, plainC, Bool.and_eq_true] at hok hp
    have hg := hf.ev hok.1.1
    unfold dwp at h
    split at h
    · rename_i b hb
      rw [hb] at hg
      simp only [Rep] at hg
      refine wpIn_cond (t := b) hg ?_
      cases b with
      | true => exact ihx hp.1 hok.1.2 hM hf (h.1 rfl) hQ hq
      | false => exact ihy hp.2 hok.2 hM hf (h.2 rfl) hQ hq
    · exact h.elim
  | block id c ih =>
    intro Q S η w f a Q' hp hok hM hf h hQ hq
    refine wpIn_block (ih hp hok hM hf h (fun ⟨a, w, h⟩ => hQ ⟨a, w, h⟩) fun e f' S' η' w' a' k1 k2 k3 k4 k5 => ?_)
    cases e with
    | normal => exact hq .normal f' S' η' w' a' k1 k2 k3 k4 k5
    | ret => exact hq .ret f' S' η' w' a' k1 k2 k3 k4 k5
    | exit i =>
      simp only [DQ.block] at k1
      simp only [DX.up, Exit.inBlock]
      cases hb : Nat.beq i id with
      | true =>
        rw [if_pos (Nat.eq_of_beq_eq_true hb)]
        rw [hb] at k1
        exact hq .normal f' S' η' w' a' k1 k2 k3 k4 k5
      | false =>
        rw [if_neg (by intro e; rw [e, Nat.beq_refl] at hb; cases hb)]
        rw [hb] at k1
        exact hq (.exit i) f' S' η' w' a' k1 k2 k3 k4 k5
  | loop c ih => intro Q S η w f a Q' hp; cases hp
  | ret => intro Q S η w f a Q' hp; cases hp
  | rangeFunc x ps aa b _ _ => intro Q S η w f a Q' hp; cases hp
  | scope c _ => intro Q S η w f a Q' hp; cases hp
  | goto l => intro Q S η w f a Q' hp; cases hp
  | refuse s => intro Q S η w f a Q' hp; cases hp
end
end Go.Proofs.Ytonncfminojejaa
