/- MessageEncodes answers true for any two messages, and leaves its arguments as they were. Conditions: none but the statement's own. -/
import Derived.Test.YtonncfminojejaaGreatDoorE8
import Derived.Test.YtonncfminojejaaGreatDoorCards
import Derived.Test.YtonncfminojejaaGreatDoorTie
import Derived.SevenTiedAt
import Derived.RowKit
import Derived.RowKitTokens
set_option linter.unusedVariables false
set_option linter.unusedSimpArgs false
namespace Go.Proofs.YtonncfminojejaaGreatDoor
open Go.RowKit
noncomputable def refDec (l : List UInt8) : D := .tup [encMs (if (endX l (decM l).2).2.1 = 0 then (decM l).1 else zM), .v (.int .i64 (endX l (decM l).2).2.1), .v (.int .i64 (if (endX l (decM l).2).2.1 = 0 then -1 else (endX l (decM l).2).2.2))]
theorem refDec_closed (l : List UInt8) : (refDec l).closed := by
  have := closed_encMs (if (endX l (decM l).2).2.1 = 0 then (decM l).1 else zM)
  simp only [refDec, D.closed, D.all, allL] at this ⊢
  exact ⟨this, trivial, trivial, trivial⟩
theorem endX_1 (l : List UInt8) (x : Rst) : (if x.2.1 = 0 ∧ x.1 < l.length then 2 else x.2.1) = (endX l x).2.1 := by unfold endX; split <;> rfl
theorem endX_2 (l : List UInt8) (x : Rst) : (if x.2.1 = 0 ∧ x.1 < l.length then (x.1 : Int) else x.2.2) = (endX l x).2.2 := by unfold endX; split <;> rfl
theorem riseH_snoc {l : List H32} {h : H32} {i : Nat} (hl : l.length = i + 1) (hr : riseH l = true) : riseH (l ++ [h]) = decide (valH l[i] < valH h) := by
  by_cases hv : valH l[i] < valH h
  · rw [decide_eq_true hv]
    refine riseH_true.2 fun j hj => ?_
    rw [List.length_append, List.length_singleton] at hj
    by_cases e : j = i
    · subst e
      rw [List.getElem_append_left (by omega), List.getElem_append_right (by omega)]
      simpa using hv
    · rw [List.getElem_append_left (by omega), List.getElem_append_left (by omega)]
      exact riseH_true.1 hr j (by omega)
  · rw [decide_eq_false hv]
    refine rise_at (i := i) (by rw [List.length_append, List.length_singleton]; omega) ?_
    rw [List.getElem_append_left (by omega), List.getElem_append_right (by omega)]
    simpa using hv
theorem cnt_least {l : List UInt8} {x : Rst} {b : Nat} : cntR l x 1 b = if (cntR l x 0 b).1 = 0 then (0, nxt (cntR l x 0 b).2 (.error 2)) else cntR l x 0 b := by
  unfold cntR
  by_cases h1 : (nuN l x MU).2.1 ≠ 0
  · rw [if_pos h1, if_pos h1, if_pos rfl, nuE_no h1]
  rw [if_neg h1, if_neg h1]
  by_cases h2 : b < nuV l x MU
  · rw [if_pos h2, if_pos h2, if_pos rfl, nuE_no (x := nxt (nuN l x MU) (.error 3)) (nxt_er _ _ (by decide))]
  rw [if_neg h2, if_neg h2, if_neg (Nat.not_lt_zero _)]
  by_cases h3 : nuV l x MU = 0
  · rw [if_pos (by omega), if_pos h3, h3]
  · rw [if_neg (by omega), if_neg h3]
theorem mB_drop (n : Int) (r : Bool) (f : F64) (i e : D) : (mB n r f i e).drop 68 = [] := List.drop_eq_nil_of_le (by rw [mB_len]; omega)
def mC (n : Int) (r : Bool) (a e : D) (R : List UInt8) (i : Nat) : List D := [.v (.int .i64 n), .v (.bool r)] ++ (R.map bD).take i ++ (zF.1.map bD).drop i ++ [a, e]
theorem mC_0 (n : Int) (r : Bool) (a e : D) (R : List UInt8) : mC n r a e R 0 = mB n r zF a e := by simp [mC, mB]
theorem mC_put (n : Int) (r : Bool) (a e : D) {R : List UInt8} {i : Nat} (hi : i < R.length) (hR : R.length ≤ 64) : (mC n r a e R i).take (2 + i) ++ [bD R[i]] ++ (mC n r a e R i).drop (2 + i + 1) = mC n r a e R (i + 1) := by
  have := put_row (hd := [D.v (.int .i64 n), .v (.bool r)]) (tl := [a, e]) (Z := zF.1.map bD) (R := R.map bD) (i := i) (by rw [List.length_map]; exact hi) (by rw [List.length_map, len_encF]; exact hR)
  simp only [List.getElem_map] at this
  exact this
theorem mC_len (n : Int) (r : Bool) (a e : D) {R : List UInt8} {i : Nat} (hi : i ≤ R.length) (hR : R.length ≤ 64) : (mC n r a e R i).length = 68 := by
  simp only [mC, List.length_append, List.length_take, List.length_drop, List.length_map, List.length_cons, List.length_nil, zF.2]; omega
theorem f_done (l : List UInt8) (x : Rst) (n : Int) (r : Bool) (a e : D) : mC n r a e (rwV l x 64) (rwV l x 64).length = mB n r (fV l x) a e := by
  rw [← mB_f]
  unfold mC
  rw [List.take_of_length_le (l := (rwV l x 64).map bD) (by rw [List.length_map]; exact Nat.le_refl _)]
  have h2 : (mB n r zF a e).take 2 = [.v (.int .i64 n), .v (.bool r)] := rfl
  have h3 : (mB n r zF a e).drop (2 + (rwV l x 64).length) = (zF.1.map bD).drop (rwV l x 64).length ++ [a, e] := by
    have hl : (rwV l x 64).length ≤ 64 := by
      rcases rwV_two l x 64 with h | h
      · rw [h]; simp
      · omega
    rw [← List.drop_drop]
    show ((zF.1.map bD) ++ [a, e]).drop _ = _
    rw [List.drop_append_of_le_length (by rw [len_encF]; exact hl)]
  rw [h2, h3]
  simp only [List.append_assoc]
theorem inl_cell3_ret {P : Program} {f : Fm} {K : D → St → Prop} (x u v : Tmp) (t : TypeId) (S' : St) : DQ.inl P [.cell x t, .tmp u, .tmp v] K .ret f S' = dcellR P S' t (f x) (fun r => K (.tup [r, f u, f v]) S') := by
  rw [← onVal_cell]
  simp [DQ.inl, dresL, dres, onVal, one]
attribute [local go_sem] inl_cell3_ret
section
set_option maxRecDepth 200000
set_option maxHeartbeats 16000000
attribute [local go_sem] mB_k mB_i mB_e mB_sr mB_si mB_se mB_len mB_take mB_drop List.append_nil
theorem rdecode25_d (own : Own) (l : List UInt8) (hl : l.length ≤ 1048576) : DPure Tryz.prog 7 [.sl own (l.map bD)] (refDec l) := by
  refine dpure_frz (refDec_closed l) fun S hS => ?_
  refine dcalls_inline mixed Tryz.func7 rfl (fun _ _ => by kernel_rfl) (rs := [.cell 2 28, .tmp 3, .tmp 4]) rfl (by kernel_rfl) (fun hS => ?_)
  (simp (disch := first | decide | omega | (simp only [nx]; first | done | omega)) only [go_sem]; (repeat with_reducible refine aI ?_))
  obtain ⟨T0, hT0⟩ : ∃ T0 : St, T0 = (S.add (.box 28 [.v (.int .i64 0), .v (.bool false), D.v (.int .u8 0), D.v (.int .u8 0), D.v (.int .u8 0), D.v (.int .u8 0), D.v (.int .u8 0), D.v (.int .u8 0), D.v (.int .u8 0), D.v (.int .u8 0), D.v (.int .u8 0), D.v (.int .u8 0), D.v (.int .u8 0), D.v (.int .u8 0), D.v (.int .u8 0), D.v (.int .u8 0), D.v (.int .u8 0), D.v (.int .u8 0), D.v (.int .u8 0), D.v (.int .u8 0), D.v (.int .u8 0), D.v (.int .u8 0), D.v (.int .u8 0), D.v (.int .u8 0), D.v (.int .u8 0), D.v (.int .u8 0), D.v (.int .u8 0), D.v (.int .u8 0), D.v (.int .u8 0), D.v (.int .u8 0), D.v (.int .u8 0), D.v (.int .u8 0), D.v (.int .u8 0), D.v (.int .u8 0), D.v (.int .u8 0), D.v (.int .u8 0), D.v (.int .u8 0), D.v (.int .u8 0), D.v (.int .u8 0), D.v (.int .u8 0), D.v (.int .u8 0), D.v (.int .u8 0), D.v (.int .u8 0), D.v (.int .u8 0), D.v (.int .u8 0), D.v (.int .u8 0), D.v (.int .u8 0), D.v (.int .u8 0), D.v (.int .u8 0), D.v (.int .u8 0), D.v (.int .u8 0), D.v (.int .u8 0), D.v (.int .u8 0), D.v (.int .u8 0), D.v (.int .u8 0), D.v (.int .u8 0), D.v (.int .u8 0), D.v (.int .u8 0), D.v (.int .u8 0), D.v (.int .u8 0), D.v (.int .u8 0), D.v (.int .u8 0), D.v (.int .u8 0), D.v (.int .u8 0), D.v (.int .u8 0), D.v (.int .u8 0), .sl .full [], .sl .full []])).add (.box 60 [.sl own (l.map bD), .v (.int .i64 0), .v (.int .i64 0), .v (.int .i64 0)]) := ⟨_, rfl⟩
  obtain ⟨q, hq⟩ : ∃ q, q = S.next + 1 := ⟨_, rfl⟩
  have hW0 : T0.WF := by rw [hT0]; exact (hS.add _).add _
  have n0 : T0.next = q + 1 := by rw [hT0, hq]; rfl
  have k0 : ∀ j o, S.ob j = some o → T0.ob j = some o := fun j o e => by have := hS.lt e; rw [hT0, add_ne (by show j < S.next + 1; omega), add_ne this, e]
  have z0 : T0.ob S.next = some (.box 28 (mB 0 false zF (.sl .full []) (.sl .full []))) := by rw [hT0, add_ne (by show S.next < S.next + 1; omega), ← mB_z]; exact add_eq
  have r0 : T0.ob q = some (qB own l x0) := by rw [hT0, hq]; exact add_eq (S := S.add _)
  rw [← hT0, ← hq]
  clear hT0
  refine (byte_q r0 (Nat.zero_le _) hl).wf.mono ?_
  rintro _ T2 ⟨⟨rfl, r2, F2⟩, hW2⟩
  have n2 := F2.next
  have z2 := F2.ob S.next _ (by omega) z0
  have k2 : ∀ j o, S.ob j = some o → T2.ob j = some o := fun j o e => by have := hS.lt e; exact F2.ob j o (by omega) (k0 j o e)
  have hlb := by_le (x0_le l)
  have wk : IntKind.i64.wrap ((byV l x0).toNat : Int) = ((byV l x0).toNat : Int) := IntWalk.i64_in _ ⟨by have := (byV l x0).toNat_lt; omega, by have := (byV l x0).toNat_lt; omega⟩
  have key : ∀ T' : St, T2.next + 1 ≤ T'.next → True := fun _ _ => trivial
  obtain ⟨mb, hmb⟩ : ∃ mb, mb = T2.next := ⟨_, rfl⟩
  obtain ⟨T3, hT3⟩ : ∃ T3 : St, T3 = T2.add (.box 28 (mB ((byV l x0).toNat : Int) false zF (.sl .full []) (.sl .full []))) := ⟨_, rfl⟩
  have hW3 : T3.WF := by rw [hT3]; exact hW2.add _
  have n3 : T3.next = mb + 1 := by rw [hT3, hmb]; rfl
  have k3 : ∀ j o, T2.ob j = some o → T3.ob j = some o := fun j o e => by have := hW2.lt e; rw [hT3, add_ne this, e]
  have b3 : T3.ob mb = some (.box 28 (mB ((byV l x0).toNat : Int) false zF (.sl .full []) (.sl .full []))) := by rw [hT3, hmb]; exact add_eq
  have r3 := k3 _ _ r2
  have z3 := k3 _ _ z2
  have kk3 : ∀ j o, S.ob j = some o → T3.ob j = some o := fun j o e => k3 _ _ (k2 j o e)
  have hqq : q < mb := by omega
  have hv0 := (byV l x0).toNat_lt
  by_cases h1 : byV l x0 = 1
  · have hku : (((1 : UInt8).toNat : Nat) : Int) = 1 := rfl
    rw [h1, hku] at wk b3 hT3
    (simp (disch := first | decide | omega | (simp only [nx]; first | done | omega)) only [go_sem, bD_eq, h1, hku, cv_u8i64, wk]; (repeat with_reducible refine aI ?_))
    rw [mB_z, add_setq, ← hT3, ← hmb]
    clear hT3
    have g1 : decide ((1 : Int) < 1) = false := by decide
    have g2 : decide ((3 : Int) < 1) = false := by decide
    have g3 : ((1 : Int) == 1) = true := by decide
    (simp (disch := first | decide | omega | (simp only [nx]; first | done | omega)) only [go_sem, b3, g1, g2, g3]; (repeat with_reducible refine aI ?_))
    refine (bool_q r3 hlb hl).wf.mono ?_
    rintro _ T4 ⟨⟨rfl, r4, F4⟩, hW4⟩
    have b4 := F4.ob mb _ (by omega) b3
    have n4 := F4.next
    (simp (disch := first | decide | omega | (simp only [nx]; first | done | omega)) only [go_sem, b4]; (repeat with_reducible refine aI ?_))
    obtain ⟨T5, hT5⟩ : ∃ T5 : St, T5 = T4.set mb (.box 28 (mB 1 (boV l (byN l x0)) zF (.sl .full []) (.sl .full []))) := ⟨_, rfl⟩
    have hW5 : T5.WF := by rw [hT5]; exact hW4.set (by omega) _
    have n5 : T5.next = T4.next := by rw [hT5]; rfl
    have b5 : T5.ob mb = some (.box 28 (mB 1 (boV l (byN l x0)) zF (.sl .full []) (.sl .full []))) := by rw [hT5]; exact set_eq
    have r5 : T5.ob q = some (qB own l (boN l (byN l x0))) := by rw [hT5, set_ne (by omega)]; exact r4
    have F5 : FrM q mb T3 T5 := by rw [hT5]; exact ((FrM.refl q mb T3).rfr F4).set _
    rw [← hT5]
    clear hT5
    have hl5 := bo_le hlb
    refine (rawN_q (mx := 64) (by unfold IsI64; omega) r5 hl5 hl).wf.mono ?_
    rintro _ T6 ⟨⟨rfl, r6, F6⟩, hW6⟩
    have b6 := F6.ob mb _ (by omega) b5
    have n6 := F6.next
    have e64 : (64 : Int).toNat = 64 := rfl
    rw [e64] at r6 ⊢
    have hl6 := rw_le (m := 64) hl5
    have G6 := F5.rfr F6
    have hrl : (rwV l (boN l (byN l x0)) 64).length ≤ 64 := by
      rcases rwV_two l (boN l (byN l x0)) 64 with h | h
      · rw [h]; simp
      · omega
    have hfd := f_done l (boN l (byN l x0)) 1 (boV l (byN l x0)) (.sl .full []) (.sl .full [])
    obtain ⟨R, hR⟩ : ∃ R, R = rwV l (boN l (byN l x0)) 64 := ⟨_, rfl⟩
    rw [← hR] at hrl hfd ⊢
    clear hR
    obtain ⟨rb, hrb⟩ : ∃ rb, rb = boV l (byN l x0) := ⟨_, rfl⟩
    rw [← hrb] at b6 hfd
    (simp (disch := first | decide | omega | (simp only [nx]; first | done | omega)) only [go_sem]; (repeat with_reducible refine aI ?_))
    refine dloop_up (fun t => List.contains [9, 41, 42, 43, 44, 45, 46, 47, 48, 49, 50, 51, 52, 53] t) (by kernel_rfl) (by exact hW6) R.length (fun i g T => i ≤ R.length ∧ g 9 = .v (.int .i64 ((i : Nat) : Int)) ∧ T.next = T6.next ∧ T.ob mb = some (.box 28 (mC 1 rb (.sl .full []) (.sl .full []) R i)) ∧ T.ob q = some (qB own l (rwN l (boN l (byN l x0)) 64)) ∧ FrM q mb T3 T)
      ⟨by omega, by (first | (simp (disch := first | decide | omega | (simp only [nx]; first | done | omega)) only [go_sem]; first | done | rfl) | rfl), rfl, by rw [b6, mC_0], r6, G6⟩ ?_
    rintro i g T hT hgw ⟨le, q9, nT, bT, rT, G⟩
    (have q2w := hgw 2 rfl; have q3w := hgw 3 rfl; have q4w := hgw 4 rfl; have q5w := hgw 5 rfl; have q6w := hgw 6 rfl; have q7w := hgw 7 rfl; have q8w := hgw 8 rfl; simp (disch := first | decide | omega | (simp only [nx]; first | done | omega)) only [go_sem] at q2w q3w q4w q5w q6w q7w q8w; clear hgw)
    by_cases hlt : i < R.length
    · have d1 : decide ((i : Int) < (R.length : Int)) = true := decide_eq_true (by omega)
      have w1 : IntKind.i64.wrap ((i : Int) + 1) = ((i + 1 : Nat) : Int) := IntWalk.i64_in _ ⟨by omega, by omega⟩
      have hgd := getD_map bD R i hlt
      have hp := mC_put 1 rb (.sl .full []) (.sl .full []) hlt hrl
      have hml := mC_len 1 rb (.sl .full []) (.sl .full []) (R := R) (i := i) (by omega) hrl
      (simp (disch := first | decide | omega | (simp only [nx]; first | done | omega)) only [go_sem, q6w, q8w, q9, d1, hgd, hlt, bT, cells_bD, List.getD_cons_zero, List.length_singleton, Nat.mul_one, hp, hml, w1]; (repeat with_reducible refine aI ?_))
      refine ⟨rfl, by omega, ?_⟩
      refine ⟨by omega, (T.set mb (.box 28 (mC 1 rb (.sl .full []) (.sl .full []) R (i + 1)))).ob, fun _ _ h => h, by omega, by (first | (simp (disch := first | decide | omega | (simp only [nx]; first | done | omega)) only [go_sem, w1]; first | done | rfl) | rfl), nT, set_eq, by rw [set_ne (by omega)]; exact rT, G.set _⟩
    · have d1 : decide ((i : Int) < (R.length : Int)) = false := decide_eq_false (by omega)
      obtain rfl : i = R.length := by omega
      rw [hfd] at bT
      (simp (disch := first | decide | omega | (simp only [nx]; first | done | omega)) only [go_sem, q5w, q6w, q7w, q8w, q9, d1]; (repeat with_reducible refine aI ?_))
      refine (rcount_q (b := 64) rT hl6 hl (by omega)).wf.mono ?_
      rintro _ T8 ⟨⟨rfl, r8, F8⟩, hW8⟩
      have n8 := F8.next
      have b8 := F8.ob mb _ (by omega) bT
      have G8 := G.rfr F8
      have hb8 := cnt_most l (rwN l (boN l (byN l x0)) 64) 0 64
      have hl8 := cnt_le (a := 0) (b := 64) hl6
      have f1 : ((1 : Int) != 1) = false := by decide
      have hd0 : decM l = (⟨1, rb, fV l (boN l (byN l x0)), (idsR l (cntR l (rwN l (boN l (byN l x0)) 64) 0 64).2 (cntR l (rwN l (boN l (byN l x0)) 64) 0 64).1).1, []⟩, (idsR l (cntR l (rwN l (boN l (byN l x0)) 64) 0 64).2 (cntR l (rwN l (boN l (byN l x0)) 64) 0 64).1).2) := by rw [hrb]; exact if_pos h1
      by_cases hn0 : (cntR l (rwN l (boN l (byN l x0)) 64) 0 64).1 = 0
      · have c1 : (((cntR l (rwN l (boN l (byN l x0)) 64) 0 64).1 : Int) == 0) = true := beq_iff_eq.2 (by omega)
        (simp (disch := first | decide | omega | (simp only [nx]; first | done | omega)) only [go_sem, q5w, q6w, b8, c1, f1]; (repeat with_reducible refine aI ?_))
        have hdec : decM l = (⟨1, rb, fV l (boN l (byN l x0)), (idsR l ((cntR l (rwN l (boN l (byN l x0)) 64) 0 64).2) ((cntR l (rwN l (boN l (byN l x0)) 64) 0 64).1)).1, []⟩, (idsR l ((cntR l (rwN l (boN l (byN l x0)) 64) 0 64).2) ((cntR l (rwN l (boN l (byN l x0)) 64) 0 64).1)).2) := hd0
        have hyl : ((cntR l (rwN l (boN l (byN l x0)) 64) 0 64).2).1 ≤ l.length := hl8
        clear hn0 c1
        have hnn : (cntR l (rwN l (boN l (byN l x0)) 64) 0 64).1 ≤ 64 := hb8
        generalize (cntR l (rwN l (boN l (byN l x0)) 64) 0 64).2 = y at *
        generalize (cntR l (rwN l (boN l (byN l x0)) 64) 0 64).1 = n at *
        refine dloop_up (fun t => List.contains [11, 12, 13, 66, 67, 68, 69, 70, 71, 72, 73, 74, 75, 76, 77, 78, 79, 80, 81, 82, 83, 84, 85, 86, 87, 88, 89, 90, 91, 92, 93, 94, 95, 96, 97, 98, 99, 100, 101, 102, 103, 104, 105, 106, 107, 108, 109, 110, 111, 112, 113, 114, 115, 116] t) (by kernel_rfl) (by exact hW8) n (fun i g T => i ≤ n ∧ g 11 = .v (.int .i64 ((i : Nat) : Int)) ∧ ∃ own2, T.ob mb = some (.box 28 (mB 1 (rb) (fV l (boN l (byN l x0))) (.sl own2 ((idsR l y i).1.map encH)) (.sl .full []))) ∧ RowE 45 (mb + 1) own2 i T ∧ T.ob q = some (qB own l (idsR l y i).2) ∧ FrM q mb T3 T)
          ⟨by omega, by (first | (simp (disch := first | decide | omega | (simp only [nx]; first | done | omega)) only [go_sem]; first | done | rfl) | rfl), .full, b8, .inl ⟨rfl, rfl⟩, r8, G8⟩ ?_
        rintro i g T hT hg ⟨le, q11, own2, bT, hrow, rT, G⟩
        (have q2 := hg 2 rfl; have q3 := hg 3 rfl; have q4 := hg 4 rfl; have q5 := hg 5 rfl; have q6 := hg 6 rfl; have q10 := hg 10 rfl; simp (disch := first | decide | omega | (simp only [nx]; first | done | omega)) only [go_sem, q2w, q5w, q6w] at q2 q3 q4 q5 q6 q10; clear hg)
        have nG := G.next
        have hle := ids_le (l := l) (x := y) hyl i
        have hlen := ids_len (l := l) (x := y) i
        have rT' : T.ob q = some (.box 60 [.sl own (l.map bD), .v (.int .i64 ((idsR l y i).2.1 : Int)), .v (.int .i64 (idsR l y i).2.2.1), .v (.int .i64 (idsR l y i).2.2.2)]) := rT
        by_cases hgo : i < n ∧ (idsR l y i).2.2.1 = 0
        · obtain ⟨hlt, hc0⟩ := hgo
          have hrise := (ids_b hyl i hc0).1
          have d1 : decide ((i : Int) < (n : Int)) = true := decide_eq_true (by omega)
          have d2 : ((idsR l y i).2.2.1 == 0) = true := by rw [hc0]; rfl
          have d3 : ((1 : Int) == 3) = false := by decide
          have w1 : IntKind.i64.wrap ((i : Int) + 1) = ((i + 1 : Nat) : Int) := IntWalk.i64_in _ ⟨by omega, by omega⟩
          (simp (disch := first | decide | omega | (simp only [nx]; first | done | omega)) only [go_sem, q5, q6, q10, q11, d1, rT', d2, bT, d3]; (repeat with_reducible refine aI ?_))
          refine (rhash_q rT hle hl).wf.mono ?_
          rintro _ U1 ⟨⟨rfl, rU, F1⟩, hU1⟩
          have nU := F1.next
          have bU := F1.ob mb _ (by omega) bT
          have hr1 := hrow.keep fun gr g1 g3 => F1.ob gr _ (by omega) g3
          have G1 : FrM q mb T3 U1 := G.rfr F1
          have hlh := (hV l (idsR l y i).2).2
          (simp (disch := first | decide | omega | (simp only [nx]; first | done | omega)) only [go_sem, hlh]; (repeat with_reducible refine aI ?_))
          rw [add_setq]
          obtain ⟨h, hh⟩ : ∃ h, h = hV l (idsR l y i).2 := ⟨_, rfl⟩
          have e5 : idsR l y (i + 1) = ((idsR l y i).1 ++ [h], if riseH ((idsR l y i).1 ++ [h]) = true then rwN l (idsR l y i).2 32 else nxt (rwN l (idsR l y i).2 32) (.error 2)) := by rw [idsR, hh]
          rw [← hh] at hlh ⊢
          clear hh
          obtain ⟨V1, hV1⟩ : ∃ V1 : St, V1 = U1.add (.box 45 (h.1.map bD)) := ⟨_, rfl⟩
          have hWV : V1.WF := by rw [hV1]; exact hU1.add _
          have nV : V1.next = U1.next + 1 := by rw [hV1]; rfl
          have kV : ∀ j o, U1.ob j = some o → V1.ob j = some o := fun j o e => by have := hU1.lt e; rw [hV1, add_ne this, e]
          have hV0 : V1.ob U1.next = some (.box 45 (h.1.map bD)) := by rw [hV1]; exact add_eq
          have bV := kV _ _ bU
          have rV := kV _ _ rU
          have hrV := hr1.keep fun gr g1 g3 => kV gr _ g3
          have GV : FrM q mb T3 V1 := ⟨by have := G1.next; omega, fun j o h1 h2 e => kV _ _ (G1.ob j o h1 h2 e)⟩
          rw [← hV1]
          clear hV1
          have hlist : (idsR l y i).1.map encH ++ [encH h] = ((idsR l y i).1 ++ [h]).map encH := by simp
          have nU1 : mb < U1.next := by have := hU1.lt bU; omega
          by_cases hi0 : i = 0
          · have c1 : decide ((0 : Int) < (i : Int)) = false := decide_eq_false (by omega)
            have hrs : riseH ((idsR l y i).1 ++ [h]) = true := by subst hi0; exact riseH_one h
            rw [if_pos hrs] at e5
            refine ddraw_mk 13 (by kernel_rfl) ?_
            (simp (disch := first | decide | omega | (simp only [nx]; first | done | omega)) only [go_sem, q5, q6, q11, c1, hlh, hV0, bV]; (repeat with_reducible refine aI ?_))
            refine dapp_hs (own := own2) (es := (idsR l y i).1.map encH) (o := encH h) (hrV.len (by rw [List.length_map, hlen])) (by rw [List.length_map]; omega) (wHs _) (width_encH _) ?_
            rw [List.length_map, hlen, hlist]
            have gb := grow_box (n := i + 1) hWV hrV bV
            have gq := grow_box (n := i + 1) hWV hrV rV
            have gr := RowE.grow (e := 45) (lo := mb + 1) (n := i) (m := i + 1) (own := own2) (T := V1) (by omega)
            have gG : FrM q mb T3 (V1.grow own2 45 (i + 1)) := ⟨by rw [grow_next]; have := GV.next; omega, fun j o hj1 hj2 e => by have := hW3.lt e; exact hrV.low hWV (by omega) (GV.ob j o hj1 hj2 e)⟩
            have gW := hWV.grow own2 45 (i + 1)
            have gn : (V1.grow own2 45 (i + 1)).next = V1.next + 1 := grow_next _ _ _ _
            revert gb gq gr gG gW gn
            generalize V1.grow own2 45 (i + 1) = V
            intro gb gq gr gG gW gn
            (simp (disch := first | decide | omega | (simp only [nx]; first | done | omega)) only [go_sem, q6, gb, q11, w1]; (repeat with_reducible refine aI ?_))
            refine ⟨by omega, (V.set mb (.box 28 (mB 1 (rb) (fV l (boN l (byN l x0))) (.sl (.row V1.next) (((idsR l y i).1 ++ [h]).map encH)) (.sl .full [])))).ob, fun _ _ h => h, by omega, by (first | (simp (disch := first | decide | omega | (simp only [nx]; first | done | omega)) only [go_sem, w1]; first | done | rfl) | rfl), .row V1.next, ?_, ?_, ?_, ?_⟩
            · rw [e5]; exact set_eq
            · exact gr.keep fun gr1 g1 g3 => by rw [set_ne (by omega)]; exact g3
            · rw [e5, set_ne (by omega)]; exact gq
            · exact gG.set _
          · have c1 : decide ((0 : Int) < (i : Int)) = true := decide_eq_true (by omega)
            obtain ⟨j, hj⟩ : ∃ j, i = j + 1 := ⟨i - 1, by omega⟩
            have w0 : IntKind.i64.wrap ((i : Int) - 1) = ((j : Nat) : Int) := (IntWalk.i64_in _ ⟨by omega, by omega⟩).trans (by omega)
            have hjl : j < (idsR l y i).1.length := by omega
            have lh2 := (idsR l y i).1[j].2
            have hsn := riseH_snoc (h := h) (i := j) (by omega) hrise
            refine ddraw_mk 13 (by kernel_rfl) ?_
            (simp (disch := first | decide | omega | (simp only [nx]; first | done | omega)) only [go_sem, q5, q6, q11, c1, w0, hjl, hlh, lh2, hV0, bV]; (repeat with_reducible refine aI ?_))
            refine dqgo_mk (rless_d (idsR l y i).1[j] h) ?_
            by_cases hv : valH (idsR l y i).1[j] < valH h
            · have c2 : decide (valH (idsR l y i).1[j] < valH h) = true := decide_eq_true hv
              rw [hsn, if_pos c2] at e5
              (simp (disch := first | decide | omega | (simp only [nx]; first | done | omega)) only [go_sem, q5, q6, q11, c1, c2, hlh, hV0, bV]; (repeat with_reducible refine aI ?_))
              refine dapp_hs (own := own2) (es := (idsR l y i).1.map encH) (o := encH h) (hrV.len (by rw [List.length_map, hlen])) (by rw [List.length_map]; omega) (wHs _) (width_encH _) ?_
              rw [List.length_map, hlen, hlist]
              have gb := grow_box (n := i + 1) hWV hrV bV
              have gq := grow_box (n := i + 1) hWV hrV rV
              have gr := RowE.grow (e := 45) (lo := mb + 1) (n := i) (m := i + 1) (own := own2) (T := V1) (by omega)
              have gG : FrM q mb T3 (V1.grow own2 45 (i + 1)) := ⟨by rw [grow_next]; have := GV.next; omega, fun j o hj1 hj2 e => by have := hW3.lt e; exact hrV.low hWV (by omega) (GV.ob j o hj1 hj2 e)⟩
              have gW := hWV.grow own2 45 (i + 1)
              have gn : (V1.grow own2 45 (i + 1)).next = V1.next + 1 := grow_next _ _ _ _
              revert gb gq gr gG gW gn
              generalize V1.grow own2 45 (i + 1) = V
              intro gb gq gr gG gW gn
              (simp (disch := first | decide | omega | (simp only [nx]; first | done | omega)) only [go_sem, q6, gb, q11, w1]; (repeat with_reducible refine aI ?_))
              refine ⟨by omega, (V.set mb (.box 28 (mB 1 (rb) (fV l (boN l (byN l x0))) (.sl (.row V1.next) (((idsR l y i).1 ++ [h]).map encH)) (.sl .full [])))).ob, fun _ _ h => h, by omega, by (first | (simp (disch := first | decide | omega | (simp only [nx]; first | done | omega)) only [go_sem, w1]; first | done | rfl) | rfl), .row V1.next, ?_, ?_, ?_, ?_⟩
              · rw [e5]; exact set_eq
              · exact gr.keep fun gr1 g1 g3 => by rw [set_ne (by omega)]; exact g3
              · rw [e5, set_ne (by omega)]; exact gq
              · exact gG.set _
            · have c2 : decide (valH (idsR l y i).1[j] < valH h) = false := decide_eq_false hv
              rw [hsn, if_neg (by rw [c2]; simp)] at e5
              (simp (disch := first | decide | omega | (simp only [nx]; first | done | omega)) only [go_sem, q5, q6, q11, c1, c2]; (repeat with_reducible refine aI ?_))
              refine (fail_q 2 rV).wf.mono ?_
              rintro _ X1 ⟨⟨rfl, rX, FX⟩, hWX⟩
              have nX := FX.next
              have bX := FX.ob mb _ (by omega) bV
              have hX0 := FX.ob U1.next _ (by omega) hV0
              have hrX := hrV.keep fun gr g1 g3 => FX.ob gr _ (by omega) g3
              have GX := GV.rfr FX
              (simp (disch := first | decide | omega | (simp only [nx]; first | done | omega)) only [go_sem, q5, q6, q11, hlh, hX0, bX]; (repeat with_reducible refine aI ?_))
              refine dapp_hs (own := own2) (es := (idsR l y i).1.map encH) (o := encH h) (hrX.len (by rw [List.length_map, hlen])) (by rw [List.length_map]; omega) (wHs _) (width_encH _) ?_
              rw [List.length_map, hlen, hlist]
              have gb := grow_box (n := i + 1) hWX hrX bX
              have gq := grow_box (n := i + 1) hWX hrX rX
              have gr := RowE.grow (e := 45) (lo := mb + 1) (n := i) (m := i + 1) (own := own2) (T := X1) (by omega)
              have gG : FrM q mb T3 (X1.grow own2 45 (i + 1)) := ⟨by rw [grow_next]; have := GX.next; omega, fun j o hj1 hj2 e => by have := hW3.lt e; exact hrX.low hWX (by omega) (GX.ob j o hj1 hj2 e)⟩
              have gW := hWX.grow own2 45 (i + 1)
              have gn : (X1.grow own2 45 (i + 1)).next = X1.next + 1 := grow_next _ _ _ _
              revert gb gq gr gG gW gn
              generalize X1.grow own2 45 (i + 1) = V
              intro gb gq gr gG gW gn
              (simp (disch := first | decide | omega | (simp only [nx]; first | done | omega)) only [go_sem, q6, gb, q11, w1]; (repeat with_reducible refine aI ?_))
              refine ⟨by omega, (V.set mb (.box 28 (mB 1 (rb) (fV l (boN l (byN l x0))) (.sl (.row X1.next) (((idsR l y i).1 ++ [h]).map encH)) (.sl .full [])))).ob, fun _ _ h => h, by omega, by (first | (simp (disch := first | decide | omega | (simp only [nx]; first | done | omega)) only [go_sem, w1]; first | done | rfl) | rfl), .row X1.next, ?_, ?_, ?_, ?_⟩
              · rw [e5]; exact set_eq
              · exact gr.keep fun gr1 g1 g3 => by rw [set_ne (by omega)]; exact g3
              · rw [e5, set_ne (by omega)]; exact gq
              · exact gG.set _
        · have hst : (idsR l y n).2 = (idsR l y i).2 ∧ ((endX l (idsR l y i).2).2.1 = 0 → i = n) := by
            by_cases hc : (idsR l y i).2.2.1 = 0
            · have : i = n := by
                by_cases h : i < n
                · exact absurd ⟨h, hc⟩ hgo
                · omega
              exact ⟨by rw [this], fun _ => this⟩
            · have := ids_stop (l := l) (x := y) hc (n - i)
              rw [show i + (n - i) = n by omega] at this
              refine ⟨this, fun h => absurd (endX_back hle h).1 hc⟩
          have hde2 : (decM l).2 = (idsR l y i).2 := by rw [hdec]; exact hst.1
          have rE : T.ob q = some (qB own l (decM l).2) := by rw [hde2]; exact rT
          have hmE : (endX l (decM l).2).2.1 = 0 → (⟨1, rb, fV l (boN l (byN l x0)), (idsR l y i).1, []⟩ : DMs) = (decM l).1 := fun h => by
            rw [hde2] at h
            rw [hdec, hst.2 h]
          by_cases hlt : i < n
          · have d1 : decide ((i : Int) < (n : Int)) = true := decide_eq_true (by omega)
            have d2 : ((idsR l y i).2.2.1 == 0) = false := beq_eq_false_iff_ne.2 fun h => hgo ⟨hlt, h⟩
            (simp (disch := first | decide | omega | (simp only [nx]; first | done | omega)) only [go_sem, q5, q6, q10, q11, d1, rT', d2]; (repeat with_reducible refine aI ?_))
            refine (end_q rE (by rw [show (decM l).2 = (decM l).2 from rfl]; exact decM_le l)).mono ?_
            rintro _ _ ⟨rfl, hTe⟩
            rw [hTe]
            clear hTe
            rw [endX_1, endX_2, show (decM l).2 = (decM l).2 from rfl]
            have hsub : ∀ cs, S.Sub (T.set S.next (.box 28 cs)) := fun cs => ⟨by show S.next ≤ T.next; have := G.next; omega, fun j o e => by have := hS.lt e; rw [set_ne (by omega)]; exact G.ob j o (by omega) (by omega) (kk3 j o e)⟩
            have hzz : T.ob S.next = some (.box 28 (mB 0 false zF (.sl .full []) (.sl .full []))) := G.ob S.next _ (by omega) (by omega) z3
            unfold refDec
            by_cases hc : (endX l (decM l).2).2.1 = 0
            · have e1 : ((endX l (decM l).2).2.1 != 0) = false := by rw [hc]; rfl
              rw [if_pos hc, if_pos hc]
              (simp (disch := first | decide | omega | (simp only [nx]; first | done | omega)) only [go_sem, q2, q5, q6, e1, bT, hzz]; (repeat with_reducible refine aI ?_))
              refine ⟨?_, hsub _⟩
              have hmm := hmE hc
              simp only [D.frz, frzL]
              rw [hc]
              exact congrArg (fun x => D.tup [x, D.v (.int .i64 0), D.v (.int .i64 (-1))]) (by rw [← hmm, ← frz_agg]; exact mB_frz _ _ _ _ [] _ _)
            · have e1 : ((endX l (decM l).2).2.1 != 0) = true := bne_iff_ne.2 hc
              rw [if_neg hc, if_neg hc]
              (simp (disch := first | decide | omega | (simp only [nx]; first | done | omega)) only [go_sem, q2, q5, q6, e1, hzz]; (repeat with_reducible refine aI ?_))
              rw [mB_z]
              refine ⟨?_, hsub _⟩
              simp only [D.frz, frzL]
              exact congrArg (fun x => D.tup [x, D.v (.int .i64 _), D.v (.int .i64 _)]) (by rw [← frz_agg]; exact mB_frz 0 false zF [] [] .full .full)
          · have d1 : decide ((i : Int) < (n : Int)) = false := decide_eq_false (by omega)
            (simp (disch := first | decide | omega | (simp only [nx]; first | done | omega)) only [go_sem, q5, q6, q10, q11, d1]; (repeat with_reducible refine aI ?_))
            refine (end_q rE (by rw [show (decM l).2 = (decM l).2 from rfl]; exact decM_le l)).mono ?_
            rintro _ _ ⟨rfl, hTe⟩
            rw [hTe]
            clear hTe
            rw [endX_1, endX_2, show (decM l).2 = (decM l).2 from rfl]
            have hsub : ∀ cs, S.Sub (T.set S.next (.box 28 cs)) := fun cs => ⟨by show S.next ≤ T.next; have := G.next; omega, fun j o e => by have := hS.lt e; rw [set_ne (by omega)]; exact G.ob j o (by omega) (by omega) (kk3 j o e)⟩
            have hzz : T.ob S.next = some (.box 28 (mB 0 false zF (.sl .full []) (.sl .full []))) := G.ob S.next _ (by omega) (by omega) z3
            unfold refDec
            by_cases hc : (endX l (decM l).2).2.1 = 0
            · have e1 : ((endX l (decM l).2).2.1 != 0) = false := by rw [hc]; rfl
              rw [if_pos hc, if_pos hc]
              (simp (disch := first | decide | omega | (simp only [nx]; first | done | omega)) only [go_sem, q2, q5, q6, e1, bT, hzz]; (repeat with_reducible refine aI ?_))
              refine ⟨?_, hsub _⟩
              have hmm := hmE hc
              simp only [D.frz, frzL]
              rw [hc]
              exact congrArg (fun x => D.tup [x, D.v (.int .i64 0), D.v (.int .i64 (-1))]) (by rw [← hmm, ← frz_agg]; exact mB_frz _ _ _ _ [] _ _)
            · have e1 : ((endX l (decM l).2).2.1 != 0) = true := bne_iff_ne.2 hc
              rw [if_neg hc, if_neg hc]
              (simp (disch := first | decide | omega | (simp only [nx]; first | done | omega)) only [go_sem, q2, q5, q6, e1, hzz]; (repeat with_reducible refine aI ?_))
              rw [mB_z]
              refine ⟨?_, hsub _⟩
              simp only [D.frz, frzL]
              exact congrArg (fun x => D.tup [x, D.v (.int .i64 _), D.v (.int .i64 _)]) (by rw [← frz_agg]; exact mB_frz 0 false zF [] [] .full .full)
      · have c1 : (((cntR l (rwN l (boN l (byN l x0)) 64) 0 64).1 : Int) == 0) = false := beq_eq_false_iff_ne.2 (by omega)
        (simp (disch := first | decide | omega | (simp only [nx]; first | done | omega)) only [go_sem, q5w, q6w, b8, c1, f1]; (repeat with_reducible refine aI ?_))
        have hdec : decM l = (⟨1, rb, fV l (boN l (byN l x0)), (idsR l ((cntR l (rwN l (boN l (byN l x0)) 64) 0 64).2) ((cntR l (rwN l (boN l (byN l x0)) 64) 0 64).1)).1, []⟩, (idsR l ((cntR l (rwN l (boN l (byN l x0)) 64) 0 64).2) ((cntR l (rwN l (boN l (byN l x0)) 64) 0 64).1)).2) := hd0
        have hyl : ((cntR l (rwN l (boN l (byN l x0)) 64) 0 64).2).1 ≤ l.length := hl8
        clear hn0 c1
        have hnn : (cntR l (rwN l (boN l (byN l x0)) 64) 0 64).1 ≤ 64 := hb8
        generalize (cntR l (rwN l (boN l (byN l x0)) 64) 0 64).2 = y at *
        generalize (cntR l (rwN l (boN l (byN l x0)) 64) 0 64).1 = n at *
        refine dloop_up (fun t => List.contains [11, 12, 13, 66, 67, 68, 69, 70, 71, 72, 73, 74, 75, 76, 77, 78, 79, 80, 81, 82, 83, 84, 85, 86, 87, 88, 89, 90, 91, 92, 93, 94, 95, 96, 97, 98, 99, 100, 101, 102, 103, 104, 105, 106, 107, 108, 109, 110, 111, 112, 113, 114, 115, 116] t) (by kernel_rfl) (by exact hW8) n (fun i g T => i ≤ n ∧ g 11 = .v (.int .i64 ((i : Nat) : Int)) ∧ ∃ own2, T.ob mb = some (.box 28 (mB 1 (rb) (fV l (boN l (byN l x0))) (.sl own2 ((idsR l y i).1.map encH)) (.sl .full []))) ∧ RowE 45 (mb + 1) own2 i T ∧ T.ob q = some (qB own l (idsR l y i).2) ∧ FrM q mb T3 T)
          ⟨by omega, by (first | (simp (disch := first | decide | omega | (simp only [nx]; first | done | omega)) only [go_sem]; first | done | rfl) | rfl), .full, b8, .inl ⟨rfl, rfl⟩, r8, G8⟩ ?_
        rintro i g T hT hg ⟨le, q11, own2, bT, hrow, rT, G⟩
        (have q2 := hg 2 rfl; have q3 := hg 3 rfl; have q4 := hg 4 rfl; have q5 := hg 5 rfl; have q6 := hg 6 rfl; have q10 := hg 10 rfl; simp (disch := first | decide | omega | (simp only [nx]; first | done | omega)) only [go_sem, q2w, q5w, q6w] at q2 q3 q4 q5 q6 q10; clear hg)
        have nG := G.next
        have hle := ids_le (l := l) (x := y) hyl i
        have hlen := ids_len (l := l) (x := y) i
        have rT' : T.ob q = some (.box 60 [.sl own (l.map bD), .v (.int .i64 ((idsR l y i).2.1 : Int)), .v (.int .i64 (idsR l y i).2.2.1), .v (.int .i64 (idsR l y i).2.2.2)]) := rT
        by_cases hgo : i < n ∧ (idsR l y i).2.2.1 = 0
        · obtain ⟨hlt, hc0⟩ := hgo
          have hrise := (ids_b hyl i hc0).1
          have d1 : decide ((i : Int) < (n : Int)) = true := decide_eq_true (by omega)
          have d2 : ((idsR l y i).2.2.1 == 0) = true := by rw [hc0]; rfl
          have d3 : ((1 : Int) == 3) = false := by decide
          have w1 : IntKind.i64.wrap ((i : Int) + 1) = ((i + 1 : Nat) : Int) := IntWalk.i64_in _ ⟨by omega, by omega⟩
          (simp (disch := first | decide | omega | (simp only [nx]; first | done | omega)) only [go_sem, q5, q6, q10, q11, d1, rT', d2, bT, d3]; (repeat with_reducible refine aI ?_))
          refine (rhash_q rT hle hl).wf.mono ?_
          rintro _ U1 ⟨⟨rfl, rU, F1⟩, hU1⟩
          have nU := F1.next
          have bU := F1.ob mb _ (by omega) bT
          have hr1 := hrow.keep fun gr g1 g3 => F1.ob gr _ (by omega) g3
          have G1 : FrM q mb T3 U1 := G.rfr F1
          have hlh := (hV l (idsR l y i).2).2
          (simp (disch := first | decide | omega | (simp only [nx]; first | done | omega)) only [go_sem, hlh]; (repeat with_reducible refine aI ?_))
          rw [add_setq]
          obtain ⟨h, hh⟩ : ∃ h, h = hV l (idsR l y i).2 := ⟨_, rfl⟩
          have e5 : idsR l y (i + 1) = ((idsR l y i).1 ++ [h], if riseH ((idsR l y i).1 ++ [h]) = true then rwN l (idsR l y i).2 32 else nxt (rwN l (idsR l y i).2 32) (.error 2)) := by rw [idsR, hh]
          rw [← hh] at hlh ⊢
          clear hh
          obtain ⟨V1, hV1⟩ : ∃ V1 : St, V1 = U1.add (.box 45 (h.1.map bD)) := ⟨_, rfl⟩
          have hWV : V1.WF := by rw [hV1]; exact hU1.add _
          have nV : V1.next = U1.next + 1 := by rw [hV1]; rfl
          have kV : ∀ j o, U1.ob j = some o → V1.ob j = some o := fun j o e => by have := hU1.lt e; rw [hV1, add_ne this, e]
          have hV0 : V1.ob U1.next = some (.box 45 (h.1.map bD)) := by rw [hV1]; exact add_eq
          have bV := kV _ _ bU
          have rV := kV _ _ rU
          have hrV := hr1.keep fun gr g1 g3 => kV gr _ g3
          have GV : FrM q mb T3 V1 := ⟨by have := G1.next; omega, fun j o h1 h2 e => kV _ _ (G1.ob j o h1 h2 e)⟩
          rw [← hV1]
          clear hV1
          have hlist : (idsR l y i).1.map encH ++ [encH h] = ((idsR l y i).1 ++ [h]).map encH := by simp
          have nU1 : mb < U1.next := by have := hU1.lt bU; omega
          by_cases hi0 : i = 0
          · have c1 : decide ((0 : Int) < (i : Int)) = false := decide_eq_false (by omega)
            have hrs : riseH ((idsR l y i).1 ++ [h]) = true := by subst hi0; exact riseH_one h
            rw [if_pos hrs] at e5
            refine ddraw_mk 13 (by kernel_rfl) ?_
            (simp (disch := first | decide | omega | (simp only [nx]; first | done | omega)) only [go_sem, q5, q6, q11, c1, hlh, hV0, bV]; (repeat with_reducible refine aI ?_))
            refine dapp_hs (own := own2) (es := (idsR l y i).1.map encH) (o := encH h) (hrV.len (by rw [List.length_map, hlen])) (by rw [List.length_map]; omega) (wHs _) (width_encH _) ?_
            rw [List.length_map, hlen, hlist]
            have gb := grow_box (n := i + 1) hWV hrV bV
            have gq := grow_box (n := i + 1) hWV hrV rV
            have gr := RowE.grow (e := 45) (lo := mb + 1) (n := i) (m := i + 1) (own := own2) (T := V1) (by omega)
            have gG : FrM q mb T3 (V1.grow own2 45 (i + 1)) := ⟨by rw [grow_next]; have := GV.next; omega, fun j o hj1 hj2 e => by have := hW3.lt e; exact hrV.low hWV (by omega) (GV.ob j o hj1 hj2 e)⟩
            have gW := hWV.grow own2 45 (i + 1)
            have gn : (V1.grow own2 45 (i + 1)).next = V1.next + 1 := grow_next _ _ _ _
            revert gb gq gr gG gW gn
            generalize V1.grow own2 45 (i + 1) = V
            intro gb gq gr gG gW gn
            (simp (disch := first | decide | omega | (simp only [nx]; first | done | omega)) only [go_sem, q6, gb, q11, w1]; (repeat with_reducible refine aI ?_))
            refine ⟨by omega, (V.set mb (.box 28 (mB 1 (rb) (fV l (boN l (byN l x0))) (.sl (.row V1.next) (((idsR l y i).1 ++ [h]).map encH)) (.sl .full [])))).ob, fun _ _ h => h, by omega, by (first | (simp (disch := first | decide | omega | (simp only [nx]; first | done | omega)) only [go_sem, w1]; first | done | rfl) | rfl), .row V1.next, ?_, ?_, ?_, ?_⟩
            · rw [e5]; exact set_eq
            · exact gr.keep fun gr1 g1 g3 => by rw [set_ne (by omega)]; exact g3
            · rw [e5, set_ne (by omega)]; exact gq
            · exact gG.set _
          · have c1 : decide ((0 : Int) < (i : Int)) = true := decide_eq_true (by omega)
            obtain ⟨j, hj⟩ : ∃ j, i = j + 1 := ⟨i - 1, by omega⟩
            have w0 : IntKind.i64.wrap ((i : Int) - 1) = ((j : Nat) : Int) := (IntWalk.i64_in _ ⟨by omega, by omega⟩).trans (by omega)
            have hjl : j < (idsR l y i).1.length := by omega
            have lh2 := (idsR l y i).1[j].2
            have hsn := riseH_snoc (h := h) (i := j) (by omega) hrise
            refine ddraw_mk 13 (by kernel_rfl) ?_
            (simp (disch := first | decide | omega | (simp only [nx]; first | done | omega)) only [go_sem, q5, q6, q11, c1, w0, hjl, hlh, lh2, hV0, bV]; (repeat with_reducible refine aI ?_))
            refine dqgo_mk (rless_d (idsR l y i).1[j] h) ?_
            by_cases hv : valH (idsR l y i).1[j] < valH h
            · have c2 : decide (valH (idsR l y i).1[j] < valH h) = true := decide_eq_true hv
              rw [hsn, if_pos c2] at e5
              (simp (disch := first | decide | omega | (simp only [nx]; first | done | omega)) only [go_sem, q5, q6, q11, c1, c2, hlh, hV0, bV]; (repeat with_reducible refine aI ?_))
              refine dapp_hs (own := own2) (es := (idsR l y i).1.map encH) (o := encH h) (hrV.len (by rw [List.length_map, hlen])) (by rw [List.length_map]; omega) (wHs _) (width_encH _) ?_
              rw [List.length_map, hlen, hlist]
              have gb := grow_box (n := i + 1) hWV hrV bV
              have gq := grow_box (n := i + 1) hWV hrV rV
              have gr := RowE.grow (e := 45) (lo := mb + 1) (n := i) (m := i + 1) (own := own2) (T := V1) (by omega)
              have gG : FrM q mb T3 (V1.grow own2 45 (i + 1)) := ⟨by rw [grow_next]; have := GV.next; omega, fun j o hj1 hj2 e => by have := hW3.lt e; exact hrV.low hWV (by omega) (GV.ob j o hj1 hj2 e)⟩
              have gW := hWV.grow own2 45 (i + 1)
              have gn : (V1.grow own2 45 (i + 1)).next = V1.next + 1 := grow_next _ _ _ _
              revert gb gq gr gG gW gn
              generalize V1.grow own2 45 (i + 1) = V
              intro gb gq gr gG gW gn
              (simp (disch := first | decide | omega | (simp only [nx]; first | done | omega)) only [go_sem, q6, gb, q11, w1]; (repeat with_reducible refine aI ?_))
              refine ⟨by omega, (V.set mb (.box 28 (mB 1 (rb) (fV l (boN l (byN l x0))) (.sl (.row V1.next) (((idsR l y i).1 ++ [h]).map encH)) (.sl .full [])))).ob, fun _ _ h => h, by omega, by (first | (simp (disch := first | decide | omega | (simp only [nx]; first | done | omega)) only [go_sem, w1]; first | done | rfl) | rfl), .row V1.next, ?_, ?_, ?_, ?_⟩
              · rw [e5]; exact set_eq
              · exact gr.keep fun gr1 g1 g3 => by rw [set_ne (by omega)]; exact g3
              · rw [e5, set_ne (by omega)]; exact gq
              · exact gG.set _
            · have c2 : decide (valH (idsR l y i).1[j] < valH h) = false := decide_eq_false hv
              rw [hsn, if_neg (by rw [c2]; simp)] at e5
              (simp (disch := first | decide | omega | (simp only [nx]; first | done | omega)) only [go_sem, q5, q6, q11, c1, c2]; (repeat with_reducible refine aI ?_))
              refine (fail_q 2 rV).wf.mono ?_
              rintro _ X1 ⟨⟨rfl, rX, FX⟩, hWX⟩
              have nX := FX.next
              have bX := FX.ob mb _ (by omega) bV
              have hX0 := FX.ob U1.next _ (by omega) hV0
              have hrX := hrV.keep fun gr g1 g3 => FX.ob gr _ (by omega) g3
              have GX := GV.rfr FX
              (simp (disch := first | decide | omega | (simp only [nx]; first | done | omega)) only [go_sem, q5, q6, q11, hlh, hX0, bX]; (repeat with_reducible refine aI ?_))
              refine dapp_hs (own := own2) (es := (idsR l y i).1.map encH) (o := encH h) (hrX.len (by rw [List.length_map, hlen])) (by rw [List.length_map]; omega) (wHs _) (width_encH _) ?_
              rw [List.length_map, hlen, hlist]
              have gb := grow_box (n := i + 1) hWX hrX bX
              have gq := grow_box (n := i + 1) hWX hrX rX
              have gr := RowE.grow (e := 45) (lo := mb + 1) (n := i) (m := i + 1) (own := own2) (T := X1) (by omega)
              have gG : FrM q mb T3 (X1.grow own2 45 (i + 1)) := ⟨by rw [grow_next]; have := GX.next; omega, fun j o hj1 hj2 e => by have := hW3.lt e; exact hrX.low hWX (by omega) (GX.ob j o hj1 hj2 e)⟩
              have gW := hWX.grow own2 45 (i + 1)
              have gn : (X1.grow own2 45 (i + 1)).next = X1.next + 1 := grow_next _ _ _ _
              revert gb gq gr gG gW gn
              generalize X1.grow own2 45 (i + 1) = V
              intro gb gq gr gG gW gn
              (simp (disch := first | decide | omega | (simp only [nx]; first | done | omega)) only [go_sem, q6, gb, q11, w1]; (repeat with_reducible refine aI ?_))
              refine ⟨by omega, (V.set mb (.box 28 (mB 1 (rb) (fV l (boN l (byN l x0))) (.sl (.row X1.next) (((idsR l y i).1 ++ [h]).map encH)) (.sl .full [])))).ob, fun _ _ h => h, by omega, by (first | (simp (disch := first | decide | omega | (simp only [nx]; first | done | omega)) only [go_sem, w1]; first | done | rfl) | rfl), .row X1.next, ?_, ?_, ?_, ?_⟩
              · rw [e5]; exact set_eq
              · exact gr.keep fun gr1 g1 g3 => by rw [set_ne (by omega)]; exact g3
              · rw [e5, set_ne (by omega)]; exact gq
              · exact gG.set _
        · have hst : (idsR l y n).2 = (idsR l y i).2 ∧ ((endX l (idsR l y i).2).2.1 = 0 → i = n) := by
            by_cases hc : (idsR l y i).2.2.1 = 0
            · have : i = n := by
                by_cases h : i < n
                · exact absurd ⟨h, hc⟩ hgo
                · omega
              exact ⟨by rw [this], fun _ => this⟩
            · have := ids_stop (l := l) (x := y) hc (n - i)
              rw [show i + (n - i) = n by omega] at this
              refine ⟨this, fun h => absurd (endX_back hle h).1 hc⟩
          have hde2 : (decM l).2 = (idsR l y i).2 := by rw [hdec]; exact hst.1
          have rE : T.ob q = some (qB own l (decM l).2) := by rw [hde2]; exact rT
          have hmE : (endX l (decM l).2).2.1 = 0 → (⟨1, rb, fV l (boN l (byN l x0)), (idsR l y i).1, []⟩ : DMs) = (decM l).1 := fun h => by
            rw [hde2] at h
            rw [hdec, hst.2 h]
          by_cases hlt : i < n
          · have d1 : decide ((i : Int) < (n : Int)) = true := decide_eq_true (by omega)
            have d2 : ((idsR l y i).2.2.1 == 0) = false := beq_eq_false_iff_ne.2 fun h => hgo ⟨hlt, h⟩
            (simp (disch := first | decide | omega | (simp only [nx]; first | done | omega)) only [go_sem, q5, q6, q10, q11, d1, rT', d2]; (repeat with_reducible refine aI ?_))
            refine (end_q rE (by rw [show (decM l).2 = (decM l).2 from rfl]; exact decM_le l)).mono ?_
            rintro _ _ ⟨rfl, hTe⟩
            rw [hTe]
            clear hTe
            rw [endX_1, endX_2, show (decM l).2 = (decM l).2 from rfl]
            have hsub : ∀ cs, S.Sub (T.set S.next (.box 28 cs)) := fun cs => ⟨by show S.next ≤ T.next; have := G.next; omega, fun j o e => by have := hS.lt e; rw [set_ne (by omega)]; exact G.ob j o (by omega) (by omega) (kk3 j o e)⟩
            have hzz : T.ob S.next = some (.box 28 (mB 0 false zF (.sl .full []) (.sl .full []))) := G.ob S.next _ (by omega) (by omega) z3
            unfold refDec
            by_cases hc : (endX l (decM l).2).2.1 = 0
            · have e1 : ((endX l (decM l).2).2.1 != 0) = false := by rw [hc]; rfl
              rw [if_pos hc, if_pos hc]
              (simp (disch := first | decide | omega | (simp only [nx]; first | done | omega)) only [go_sem, q2, q5, q6, e1, bT, hzz]; (repeat with_reducible refine aI ?_))
              refine ⟨?_, hsub _⟩
              have hmm := hmE hc
              simp only [D.frz, frzL]
              rw [hc]
              exact congrArg (fun x => D.tup [x, D.v (.int .i64 0), D.v (.int .i64 (-1))]) (by rw [← hmm, ← frz_agg]; exact mB_frz _ _ _ _ [] _ _)
            · have e1 : ((endX l (decM l).2).2.1 != 0) = true := bne_iff_ne.2 hc
              rw [if_neg hc, if_neg hc]
              (simp (disch := first | decide | omega | (simp only [nx]; first | done | omega)) only [go_sem, q2, q5, q6, e1, hzz]; (repeat with_reducible refine aI ?_))
              rw [mB_z]
              refine ⟨?_, hsub _⟩
              simp only [D.frz, frzL]
              exact congrArg (fun x => D.tup [x, D.v (.int .i64 _), D.v (.int .i64 _)]) (by rw [← frz_agg]; exact mB_frz 0 false zF [] [] .full .full)
          · have d1 : decide ((i : Int) < (n : Int)) = false := decide_eq_false (by omega)
            (simp (disch := first | decide | omega | (simp only [nx]; first | done | omega)) only [go_sem, q5, q6, q10, q11, d1]; (repeat with_reducible refine aI ?_))
            refine (end_q rE (by rw [show (decM l).2 = (decM l).2 from rfl]; exact decM_le l)).mono ?_
            rintro _ _ ⟨rfl, hTe⟩
            rw [hTe]
            clear hTe
            rw [endX_1, endX_2, show (decM l).2 = (decM l).2 from rfl]
            have hsub : ∀ cs, S.Sub (T.set S.next (.box 28 cs)) := fun cs => ⟨by show S.next ≤ T.next; have := G.next; omega, fun j o e => by have := hS.lt e; rw [set_ne (by omega)]; exact G.ob j o (by omega) (by omega) (kk3 j o e)⟩
            have hzz : T.ob S.next = some (.box 28 (mB 0 false zF (.sl .full []) (.sl .full []))) := G.ob S.next _ (by omega) (by omega) z3
            unfold refDec
            by_cases hc : (endX l (decM l).2).2.1 = 0
            · have e1 : ((endX l (decM l).2).2.1 != 0) = false := by rw [hc]; rfl
              rw [if_pos hc, if_pos hc]
              (simp (disch := first | decide | omega | (simp only [nx]; first | done | omega)) only [go_sem, q2, q5, q6, e1, bT, hzz]; (repeat with_reducible refine aI ?_))
              refine ⟨?_, hsub _⟩
              have hmm := hmE hc
              simp only [D.frz, frzL]
              rw [hc]
              exact congrArg (fun x => D.tup [x, D.v (.int .i64 0), D.v (.int .i64 (-1))]) (by rw [← hmm, ← frz_agg]; exact mB_frz _ _ _ _ [] _ _)
            · have e1 : ((endX l (decM l).2).2.1 != 0) = true := bne_iff_ne.2 hc
              rw [if_neg hc, if_neg hc]
              (simp (disch := first | decide | omega | (simp only [nx]; first | done | omega)) only [go_sem, q2, q5, q6, e1, hzz]; (repeat with_reducible refine aI ?_))
              rw [mB_z]
              refine ⟨?_, hsub _⟩
              simp only [D.frz, frzL]
              exact congrArg (fun x => D.tup [x, D.v (.int .i64 _), D.v (.int .i64 _)]) (by rw [← frz_agg]; exact mB_frz 0 false zF [] [] .full .full)
  by_cases h2 : byV l x0 = 2
  · have hku : (((2 : UInt8).toNat : Nat) : Int) = 2 := rfl
    rw [h2, hku] at wk b3 hT3
    have g1 : decide ((2 : Int) < 1) = false := by decide
    have g2 : decide ((3 : Int) < 2) = false := by decide
    have g3 : ((2 : Int) == 1) = false := by decide
    have f1 : ((2 : Int) != 1) = true := by decide
    (simp (disch := first | decide | omega | (simp only [nx]; first | done | omega)) only [go_sem, bD_eq, h2, hku, cv_u8i64, wk]; (repeat with_reducible refine aI ?_))
    rw [mB_z, add_setq, ← hT3, ← hmb]
    clear hT3
    (simp (disch := first | decide | omega | (simp only [nx]; first | done | omega)) only [go_sem, b3, g1, g2, g3]; (repeat with_reducible refine aI ?_))
    refine (rcount_q (b := 8) r3 hlb hl (by omega)).wf.mono ?_
    rintro _ T8 ⟨⟨rfl, r8, F8⟩, hW8⟩
    have n8 := F8.next
    have b8 := F8.ob mb _ (by omega) b3
    have G8 := (FrM.refl q mb T3).rfr F8
    have hb8 := cnt_most l (byN l x0) 0 8
    have hl8 := cnt_le (a := 0) (b := 8) hlb
    by_cases hn0 : (cntR l (byN l x0) 0 8).1 = 0
    · have hd0 : decM l = (⟨2, false, zF, (idsR l (nxt (cntR l (byN l x0) 0 8).2 (.error 2)) ((cntR l (byN l x0) 0 8).1)).1, []⟩, (idsR l (nxt (cntR l (byN l x0) 0 8).2 (.error 2)) ((cntR l (byN l x0) 0 8).1)).2) := by rw [decM, if_neg h1, if_pos h2, cnt_least, if_pos hn0, hn0]
      have c1 : (((cntR l (byN l x0) 0 8).1 : Int) == 0) = true := beq_iff_eq.2 (by omega)
      (simp (disch := first | decide | omega | (simp only [nx]; first | done | omega)) only [go_sem, b8, c1, f1]; (repeat with_reducible refine aI ?_))
      refine (fail_q 2 r8).wf.mono ?_
      rintro _ T9 ⟨⟨rfl, r9, F9⟩, hW9⟩
      have n9 := F9.next
      have b9 := F9.ob mb _ (by omega) b8
      have G9 := G8.rfr F9
      have r9 : T9.ob q = some (qB own l (nxt (cntR l (byN l x0) 0 8).2 (.error 2))) := r9
      (simp (disch := first | decide | omega | (simp only [nx]; first | done | omega)) only [go_sem]; (repeat with_reducible refine aI ?_))
      have hdec : decM l = (⟨2, false, zF, (idsR l (nxt (cntR l (byN l x0) 0 8).2 (.error 2)) ((cntR l (byN l x0) 0 8).1)).1, []⟩, (idsR l (nxt (cntR l (byN l x0) 0 8).2 (.error 2)) ((cntR l (byN l x0) 0 8).1)).2) := hd0
      have hyl : (nxt (cntR l (byN l x0) 0 8).2 (.error 2)).1 ≤ l.length := er_le hl8
      clear hn0 c1
      have hnn : (cntR l (byN l x0) 0 8).1 ≤ 64 := (Nat.le_trans hb8 (by omega))
      generalize nxt (cntR l (byN l x0) 0 8).2 (.error 2) = y at *
      generalize (cntR l (byN l x0) 0 8).1 = n at *
      refine dloop_up (fun t => List.contains [11, 12, 13, 66, 67, 68, 69, 70, 71, 72, 73, 74, 75, 76, 77, 78, 79, 80, 81, 82, 83, 84, 85, 86, 87, 88, 89, 90, 91, 92, 93, 94, 95, 96, 97, 98, 99, 100, 101, 102, 103, 104, 105, 106, 107, 108, 109, 110, 111, 112, 113, 114, 115, 116] t) (by kernel_rfl) (by exact hW9) n (fun i g T => i ≤ n ∧ g 11 = .v (.int .i64 ((i : Nat) : Int)) ∧ ∃ own2, T.ob mb = some (.box 28 (mB 2 (false) (zF) (.sl own2 ((idsR l y i).1.map encH)) (.sl .full []))) ∧ RowE 45 (mb + 1) own2 i T ∧ T.ob q = some (qB own l (idsR l y i).2) ∧ FrM q mb T3 T)
        ⟨by omega, by (first | (simp (disch := first | decide | omega | (simp only [nx]; first | done | omega)) only [go_sem]; first | done | rfl) | rfl), .full, b9, .inl ⟨rfl, rfl⟩, r9, G9⟩ ?_
      rintro i g T hT hg ⟨le, q11, own2, bT, hrow, rT, G⟩
      (have q2 := hg 2 rfl; have q3 := hg 3 rfl; have q4 := hg 4 rfl; have q5 := hg 5 rfl; have q6 := hg 6 rfl; have q10 := hg 10 rfl; simp (disch := first | decide | omega | (simp only [nx]; first | done | omega)) only [go_sem] at q2 q3 q4 q5 q6 q10; clear hg)
      have nG := G.next
      have hle := ids_le (l := l) (x := y) hyl i
      have hlen := ids_len (l := l) (x := y) i
      have rT' : T.ob q = some (.box 60 [.sl own (l.map bD), .v (.int .i64 ((idsR l y i).2.1 : Int)), .v (.int .i64 (idsR l y i).2.2.1), .v (.int .i64 (idsR l y i).2.2.2)]) := rT
      by_cases hgo : i < n ∧ (idsR l y i).2.2.1 = 0
      · obtain ⟨hlt, hc0⟩ := hgo
        have hrise := (ids_b hyl i hc0).1
        have d1 : decide ((i : Int) < (n : Int)) = true := decide_eq_true (by omega)
        have d2 : ((idsR l y i).2.2.1 == 0) = true := by rw [hc0]; rfl
        have d3 : ((2 : Int) == 3) = false := by decide
        have w1 : IntKind.i64.wrap ((i : Int) + 1) = ((i + 1 : Nat) : Int) := IntWalk.i64_in _ ⟨by omega, by omega⟩
        (simp (disch := first | decide | omega | (simp only [nx]; first | done | omega)) only [go_sem, q5, q6, q10, q11, d1, rT', d2, bT, d3]; (repeat with_reducible refine aI ?_))
        refine (rhash_q rT hle hl).wf.mono ?_
        rintro _ U1 ⟨⟨rfl, rU, F1⟩, hU1⟩
        have nU := F1.next
        have bU := F1.ob mb _ (by omega) bT
        have hr1 := hrow.keep fun gr g1 g3 => F1.ob gr _ (by omega) g3
        have G1 : FrM q mb T3 U1 := G.rfr F1
        have hlh := (hV l (idsR l y i).2).2
        (simp (disch := first | decide | omega | (simp only [nx]; first | done | omega)) only [go_sem, hlh]; (repeat with_reducible refine aI ?_))
        rw [add_setq]
        obtain ⟨h, hh⟩ : ∃ h, h = hV l (idsR l y i).2 := ⟨_, rfl⟩
        have e5 : idsR l y (i + 1) = ((idsR l y i).1 ++ [h], if riseH ((idsR l y i).1 ++ [h]) = true then rwN l (idsR l y i).2 32 else nxt (rwN l (idsR l y i).2 32) (.error 2)) := by rw [idsR, hh]
        rw [← hh] at hlh ⊢
        clear hh
        obtain ⟨V1, hV1⟩ : ∃ V1 : St, V1 = U1.add (.box 45 (h.1.map bD)) := ⟨_, rfl⟩
        have hWV : V1.WF := by rw [hV1]; exact hU1.add _
        have nV : V1.next = U1.next + 1 := by rw [hV1]; rfl
        have kV : ∀ j o, U1.ob j = some o → V1.ob j = some o := fun j o e => by have := hU1.lt e; rw [hV1, add_ne this, e]
        have hV0 : V1.ob U1.next = some (.box 45 (h.1.map bD)) := by rw [hV1]; exact add_eq
        have bV := kV _ _ bU
        have rV := kV _ _ rU
        have hrV := hr1.keep fun gr g1 g3 => kV gr _ g3
        have GV : FrM q mb T3 V1 := ⟨by have := G1.next; omega, fun j o h1 h2 e => kV _ _ (G1.ob j o h1 h2 e)⟩
        rw [← hV1]
        clear hV1
        have hlist : (idsR l y i).1.map encH ++ [encH h] = ((idsR l y i).1 ++ [h]).map encH := by simp
        have nU1 : mb < U1.next := by have := hU1.lt bU; omega
        by_cases hi0 : i = 0
        · have c1 : decide ((0 : Int) < (i : Int)) = false := decide_eq_false (by omega)
          have hrs : riseH ((idsR l y i).1 ++ [h]) = true := by subst hi0; exact riseH_one h
          rw [if_pos hrs] at e5
          refine ddraw_mk 13 (by kernel_rfl) ?_
          (simp (disch := first | decide | omega | (simp only [nx]; first | done | omega)) only [go_sem, q5, q6, q11, c1, hlh, hV0, bV]; (repeat with_reducible refine aI ?_))
          refine dapp_hs (own := own2) (es := (idsR l y i).1.map encH) (o := encH h) (hrV.len (by rw [List.length_map, hlen])) (by rw [List.length_map]; omega) (wHs _) (width_encH _) ?_
          rw [List.length_map, hlen, hlist]
          have gb := grow_box (n := i + 1) hWV hrV bV
          have gq := grow_box (n := i + 1) hWV hrV rV
          have gr := RowE.grow (e := 45) (lo := mb + 1) (n := i) (m := i + 1) (own := own2) (T := V1) (by omega)
          have gG : FrM q mb T3 (V1.grow own2 45 (i + 1)) := ⟨by rw [grow_next]; have := GV.next; omega, fun j o hj1 hj2 e => by have := hW3.lt e; exact hrV.low hWV (by omega) (GV.ob j o hj1 hj2 e)⟩
          have gW := hWV.grow own2 45 (i + 1)
          have gn : (V1.grow own2 45 (i + 1)).next = V1.next + 1 := grow_next _ _ _ _
          revert gb gq gr gG gW gn
          generalize V1.grow own2 45 (i + 1) = V
          intro gb gq gr gG gW gn
          (simp (disch := first | decide | omega | (simp only [nx]; first | done | omega)) only [go_sem, q6, gb, q11, w1]; (repeat with_reducible refine aI ?_))
          refine ⟨by omega, (V.set mb (.box 28 (mB 2 (false) (zF) (.sl (.row V1.next) (((idsR l y i).1 ++ [h]).map encH)) (.sl .full [])))).ob, fun _ _ h => h, by omega, by (first | (simp (disch := first | decide | omega | (simp only [nx]; first | done | omega)) only [go_sem, w1]; first | done | rfl) | rfl), .row V1.next, ?_, ?_, ?_, ?_⟩
          · rw [e5]; exact set_eq
          · exact gr.keep fun gr1 g1 g3 => by rw [set_ne (by omega)]; exact g3
          · rw [e5, set_ne (by omega)]; exact gq
          · exact gG.set _
        · have c1 : decide ((0 : Int) < (i : Int)) = true := decide_eq_true (by omega)
          obtain ⟨j, hj⟩ : ∃ j, i = j + 1 := ⟨i - 1, by omega⟩
          have w0 : IntKind.i64.wrap ((i : Int) - 1) = ((j : Nat) : Int) := (IntWalk.i64_in _ ⟨by omega, by omega⟩).trans (by omega)
          have hjl : j < (idsR l y i).1.length := by omega
          have lh2 := (idsR l y i).1[j].2
          have hsn := riseH_snoc (h := h) (i := j) (by omega) hrise
          refine ddraw_mk 13 (by kernel_rfl) ?_
          (simp (disch := first | decide | omega | (simp only [nx]; first | done | omega)) only [go_sem, q5, q6, q11, c1, w0, hjl, hlh, lh2, hV0, bV]; (repeat with_reducible refine aI ?_))
          refine dqgo_mk (rless_d (idsR l y i).1[j] h) ?_
          by_cases hv : valH (idsR l y i).1[j] < valH h
          · have c2 : decide (valH (idsR l y i).1[j] < valH h) = true := decide_eq_true hv
            rw [hsn, if_pos c2] at e5
            (simp (disch := first | decide | omega | (simp only [nx]; first | done | omega)) only [go_sem, q5, q6, q11, c1, c2, hlh, hV0, bV]; (repeat with_reducible refine aI ?_))
            refine dapp_hs (own := own2) (es := (idsR l y i).1.map encH) (o := encH h) (hrV.len (by rw [List.length_map, hlen])) (by rw [List.length_map]; omega) (wHs _) (width_encH _) ?_
            rw [List.length_map, hlen, hlist]
            have gb := grow_box (n := i + 1) hWV hrV bV
            have gq := grow_box (n := i + 1) hWV hrV rV
            have gr := RowE.grow (e := 45) (lo := mb + 1) (n := i) (m := i + 1) (own := own2) (T := V1) (by omega)
            have gG : FrM q mb T3 (V1.grow own2 45 (i + 1)) := ⟨by rw [grow_next]; have := GV.next; omega, fun j o hj1 hj2 e => by have := hW3.lt e; exact hrV.low hWV (by omega) (GV.ob j o hj1 hj2 e)⟩
            have gW := hWV.grow own2 45 (i + 1)
            have gn : (V1.grow own2 45 (i + 1)).next = V1.next + 1 := grow_next _ _ _ _
            revert gb gq gr gG gW gn
            generalize V1.grow own2 45 (i + 1) = V
            intro gb gq gr gG gW gn
            (simp (disch := first | decide | omega | (simp only [nx]; first | done | omega)) only [go_sem, q6, gb, q11, w1]; (repeat with_reducible refine aI ?_))
            refine ⟨by omega, (V.set mb (.box 28 (mB 2 (false) (zF) (.sl (.row V1.next) (((idsR l y i).1 ++ [h]).map encH)) (.sl .full [])))).ob, fun _ _ h => h, by omega, by (first | (simp (disch := first | decide | omega | (simp only [nx]; first | done | omega)) only [go_sem, w1]; first | done | rfl) | rfl), .row V1.next, ?_, ?_, ?_, ?_⟩
            · rw [e5]; exact set_eq
            · exact gr.keep fun gr1 g1 g3 => by rw [set_ne (by omega)]; exact g3
            · rw [e5, set_ne (by omega)]; exact gq
            · exact gG.set _
          · have c2 : decide (valH (idsR l y i).1[j] < valH h) = false := decide_eq_false hv
            rw [hsn, if_neg (by rw [c2]; simp)] at e5
            (simp (disch := first | decide | omega | (simp only [nx]; first | done | omega)) only [go_sem, q5, q6, q11, c1, c2]; (repeat with_reducible refine aI ?_))
            refine (fail_q 2 rV).wf.mono ?_
            rintro _ X1 ⟨⟨rfl, rX, FX⟩, hWX⟩
            have nX := FX.next
            have bX := FX.ob mb _ (by omega) bV
            have hX0 := FX.ob U1.next _ (by omega) hV0
            have hrX := hrV.keep fun gr g1 g3 => FX.ob gr _ (by omega) g3
            have GX := GV.rfr FX
            (simp (disch := first | decide | omega | (simp only [nx]; first | done | omega)) only [go_sem, q5, q6, q11, hlh, hX0, bX]; (repeat with_reducible refine aI ?_))
            refine dapp_hs (own := own2) (es := (idsR l y i).1.map encH) (o := encH h) (hrX.len (by rw [List.length_map, hlen])) (by rw [List.length_map]; omega) (wHs _) (width_encH _) ?_
            rw [List.length_map, hlen, hlist]
            have gb := grow_box (n := i + 1) hWX hrX bX
            have gq := grow_box (n := i + 1) hWX hrX rX
            have gr := RowE.grow (e := 45) (lo := mb + 1) (n := i) (m := i + 1) (own := own2) (T := X1) (by omega)
            have gG : FrM q mb T3 (X1.grow own2 45 (i + 1)) := ⟨by rw [grow_next]; have := GX.next; omega, fun j o hj1 hj2 e => by have := hW3.lt e; exact hrX.low hWX (by omega) (GX.ob j o hj1 hj2 e)⟩
            have gW := hWX.grow own2 45 (i + 1)
            have gn : (X1.grow own2 45 (i + 1)).next = X1.next + 1 := grow_next _ _ _ _
            revert gb gq gr gG gW gn
            generalize X1.grow own2 45 (i + 1) = V
            intro gb gq gr gG gW gn
            (simp (disch := first | decide | omega | (simp only [nx]; first | done | omega)) only [go_sem, q6, gb, q11, w1]; (repeat with_reducible refine aI ?_))
            refine ⟨by omega, (V.set mb (.box 28 (mB 2 (false) (zF) (.sl (.row X1.next) (((idsR l y i).1 ++ [h]).map encH)) (.sl .full [])))).ob, fun _ _ h => h, by omega, by (first | (simp (disch := first | decide | omega | (simp only [nx]; first | done | omega)) only [go_sem, w1]; first | done | rfl) | rfl), .row X1.next, ?_, ?_, ?_, ?_⟩
            · rw [e5]; exact set_eq
            · exact gr.keep fun gr1 g1 g3 => by rw [set_ne (by omega)]; exact g3
            · rw [e5, set_ne (by omega)]; exact gq
            · exact gG.set _
      · have hst : (idsR l y n).2 = (idsR l y i).2 ∧ ((endX l (idsR l y i).2).2.1 = 0 → i = n) := by
          by_cases hc : (idsR l y i).2.2.1 = 0
          · have : i = n := by
              by_cases h : i < n
              · exact absurd ⟨h, hc⟩ hgo
              · omega
            exact ⟨by rw [this], fun _ => this⟩
          · have := ids_stop (l := l) (x := y) hc (n - i)
            rw [show i + (n - i) = n by omega] at this
            refine ⟨this, fun h => absurd (endX_back hle h).1 hc⟩
        have hde2 : (decM l).2 = (idsR l y i).2 := by rw [hdec]; exact hst.1
        have rE : T.ob q = some (qB own l (decM l).2) := by rw [hde2]; exact rT
        have hmE : (endX l (decM l).2).2.1 = 0 → (⟨2, false, zF, (idsR l y i).1, []⟩ : DMs) = (decM l).1 := fun h => by
          rw [hde2] at h
          rw [hdec, hst.2 h]
        by_cases hlt : i < n
        · have d1 : decide ((i : Int) < (n : Int)) = true := decide_eq_true (by omega)
          have d2 : ((idsR l y i).2.2.1 == 0) = false := beq_eq_false_iff_ne.2 fun h => hgo ⟨hlt, h⟩
          (simp (disch := first | decide | omega | (simp only [nx]; first | done | omega)) only [go_sem, q5, q6, q10, q11, d1, rT', d2]; (repeat with_reducible refine aI ?_))
          refine (end_q rE (by rw [show (decM l).2 = (decM l).2 from rfl]; exact decM_le l)).mono ?_
          rintro _ _ ⟨rfl, hTe⟩
          rw [hTe]
          clear hTe
          rw [endX_1, endX_2, show (decM l).2 = (decM l).2 from rfl]
          have hsub : ∀ cs, S.Sub (T.set S.next (.box 28 cs)) := fun cs => ⟨by show S.next ≤ T.next; have := G.next; omega, fun j o e => by have := hS.lt e; rw [set_ne (by omega)]; exact G.ob j o (by omega) (by omega) (kk3 j o e)⟩
          have hzz : T.ob S.next = some (.box 28 (mB 0 false zF (.sl .full []) (.sl .full []))) := G.ob S.next _ (by omega) (by omega) z3
          unfold refDec
          by_cases hc : (endX l (decM l).2).2.1 = 0
          · have e1 : ((endX l (decM l).2).2.1 != 0) = false := by rw [hc]; rfl
            rw [if_pos hc, if_pos hc]
            (simp (disch := first | decide | omega | (simp only [nx]; first | done | omega)) only [go_sem, q2, q5, q6, e1, bT, hzz]; (repeat with_reducible refine aI ?_))
            refine ⟨?_, hsub _⟩
            have hmm := hmE hc
            simp only [D.frz, frzL]
            rw [hc]
            exact congrArg (fun x => D.tup [x, D.v (.int .i64 0), D.v (.int .i64 (-1))]) (by rw [← hmm, ← frz_agg]; exact mB_frz _ _ _ _ [] _ _)
          · have e1 : ((endX l (decM l).2).2.1 != 0) = true := bne_iff_ne.2 hc
            rw [if_neg hc, if_neg hc]
            (simp (disch := first | decide | omega | (simp only [nx]; first | done | omega)) only [go_sem, q2, q5, q6, e1, hzz]; (repeat with_reducible refine aI ?_))
            rw [mB_z]
            refine ⟨?_, hsub _⟩
            simp only [D.frz, frzL]
            exact congrArg (fun x => D.tup [x, D.v (.int .i64 _), D.v (.int .i64 _)]) (by rw [← frz_agg]; exact mB_frz 0 false zF [] [] .full .full)
        · have d1 : decide ((i : Int) < (n : Int)) = false := decide_eq_false (by omega)
          (simp (disch := first | decide | omega | (simp only [nx]; first | done | omega)) only [go_sem, q5, q6, q10, q11, d1]; (repeat with_reducible refine aI ?_))
          refine (end_q rE (by rw [show (decM l).2 = (decM l).2 from rfl]; exact decM_le l)).mono ?_
          rintro _ _ ⟨rfl, hTe⟩
          rw [hTe]
          clear hTe
          rw [endX_1, endX_2, show (decM l).2 = (decM l).2 from rfl]
          have hsub : ∀ cs, S.Sub (T.set S.next (.box 28 cs)) := fun cs => ⟨by show S.next ≤ T.next; have := G.next; omega, fun j o e => by have := hS.lt e; rw [set_ne (by omega)]; exact G.ob j o (by omega) (by omega) (kk3 j o e)⟩
          have hzz : T.ob S.next = some (.box 28 (mB 0 false zF (.sl .full []) (.sl .full []))) := G.ob S.next _ (by omega) (by omega) z3
          unfold refDec
          by_cases hc : (endX l (decM l).2).2.1 = 0
          · have e1 : ((endX l (decM l).2).2.1 != 0) = false := by rw [hc]; rfl
            rw [if_pos hc, if_pos hc]
            (simp (disch := first | decide | omega | (simp only [nx]; first | done | omega)) only [go_sem, q2, q5, q6, e1, bT, hzz]; (repeat with_reducible refine aI ?_))
            refine ⟨?_, hsub _⟩
            have hmm := hmE hc
            simp only [D.frz, frzL]
            rw [hc]
            exact congrArg (fun x => D.tup [x, D.v (.int .i64 0), D.v (.int .i64 (-1))]) (by rw [← hmm, ← frz_agg]; exact mB_frz _ _ _ _ [] _ _)
          · have e1 : ((endX l (decM l).2).2.1 != 0) = true := bne_iff_ne.2 hc
            rw [if_neg hc, if_neg hc]
            (simp (disch := first | decide | omega | (simp only [nx]; first | done | omega)) only [go_sem, q2, q5, q6, e1, hzz]; (repeat with_reducible refine aI ?_))
            rw [mB_z]
            refine ⟨?_, hsub _⟩
            simp only [D.frz, frzL]
            exact congrArg (fun x => D.tup [x, D.v (.int .i64 _), D.v (.int .i64 _)]) (by rw [← frz_agg]; exact mB_frz 0 false zF [] [] .full .full)
    · have hd0 : decM l = (⟨2, false, zF, (idsR l ((cntR l (byN l x0) 0 8).2) ((cntR l (byN l x0) 0 8).1)).1, []⟩, (idsR l ((cntR l (byN l x0) 0 8).2) ((cntR l (byN l x0) 0 8).1)).2) := by rw [decM, if_neg h1, if_pos h2, cnt_least, if_neg hn0]
      have c1 : (((cntR l (byN l x0) 0 8).1 : Int) == 0) = false := beq_eq_false_iff_ne.2 (by omega)
      (simp (disch := first | decide | omega | (simp only [nx]; first | done | omega)) only [go_sem, b8, c1, f1]; (repeat with_reducible refine aI ?_))
      have hdec : decM l = (⟨2, false, zF, (idsR l ((cntR l (byN l x0) 0 8).2) ((cntR l (byN l x0) 0 8).1)).1, []⟩, (idsR l ((cntR l (byN l x0) 0 8).2) ((cntR l (byN l x0) 0 8).1)).2) := hd0
      have hyl : ((cntR l (byN l x0) 0 8).2).1 ≤ l.length := hl8
      clear hn0 c1
      have hnn : (cntR l (byN l x0) 0 8).1 ≤ 64 := (Nat.le_trans hb8 (by omega))
      generalize (cntR l (byN l x0) 0 8).2 = y at *
      generalize (cntR l (byN l x0) 0 8).1 = n at *
      refine dloop_up (fun t => List.contains [11, 12, 13, 66, 67, 68, 69, 70, 71, 72, 73, 74, 75, 76, 77, 78, 79, 80, 81, 82, 83, 84, 85, 86, 87, 88, 89, 90, 91, 92, 93, 94, 95, 96, 97, 98, 99, 100, 101, 102, 103, 104, 105, 106, 107, 108, 109, 110, 111, 112, 113, 114, 115, 116] t) (by kernel_rfl) (by exact hW8) n (fun i g T => i ≤ n ∧ g 11 = .v (.int .i64 ((i : Nat) : Int)) ∧ ∃ own2, T.ob mb = some (.box 28 (mB 2 (false) (zF) (.sl own2 ((idsR l y i).1.map encH)) (.sl .full []))) ∧ RowE 45 (mb + 1) own2 i T ∧ T.ob q = some (qB own l (idsR l y i).2) ∧ FrM q mb T3 T)
        ⟨by omega, by (first | (simp (disch := first | decide | omega | (simp only [nx]; first | done | omega)) only [go_sem]; first | done | rfl) | rfl), .full, b8, .inl ⟨rfl, rfl⟩, r8, G8⟩ ?_
      rintro i g T hT hg ⟨le, q11, own2, bT, hrow, rT, G⟩
      (have q2 := hg 2 rfl; have q3 := hg 3 rfl; have q4 := hg 4 rfl; have q5 := hg 5 rfl; have q6 := hg 6 rfl; have q10 := hg 10 rfl; simp (disch := first | decide | omega | (simp only [nx]; first | done | omega)) only [go_sem] at q2 q3 q4 q5 q6 q10; clear hg)
      have nG := G.next
      have hle := ids_le (l := l) (x := y) hyl i
      have hlen := ids_len (l := l) (x := y) i
      have rT' : T.ob q = some (.box 60 [.sl own (l.map bD), .v (.int .i64 ((idsR l y i).2.1 : Int)), .v (.int .i64 (idsR l y i).2.2.1), .v (.int .i64 (idsR l y i).2.2.2)]) := rT
      by_cases hgo : i < n ∧ (idsR l y i).2.2.1 = 0
      · obtain ⟨hlt, hc0⟩ := hgo
        have hrise := (ids_b hyl i hc0).1
        have d1 : decide ((i : Int) < (n : Int)) = true := decide_eq_true (by omega)
        have d2 : ((idsR l y i).2.2.1 == 0) = true := by rw [hc0]; rfl
        have d3 : ((2 : Int) == 3) = false := by decide
        have w1 : IntKind.i64.wrap ((i : Int) + 1) = ((i + 1 : Nat) : Int) := IntWalk.i64_in _ ⟨by omega, by omega⟩
        (simp (disch := first | decide | omega | (simp only [nx]; first | done | omega)) only [go_sem, q5, q6, q10, q11, d1, rT', d2, bT, d3]; (repeat with_reducible refine aI ?_))
        refine (rhash_q rT hle hl).wf.mono ?_
        rintro _ U1 ⟨⟨rfl, rU, F1⟩, hU1⟩
        have nU := F1.next
        have bU := F1.ob mb _ (by omega) bT
        have hr1 := hrow.keep fun gr g1 g3 => F1.ob gr _ (by omega) g3
        have G1 : FrM q mb T3 U1 := G.rfr F1
        have hlh := (hV l (idsR l y i).2).2
        (simp (disch := first | decide | omega | (simp only [nx]; first | done | omega)) only [go_sem, hlh]; (repeat with_reducible refine aI ?_))
        rw [add_setq]
        obtain ⟨h, hh⟩ : ∃ h, h = hV l (idsR l y i).2 := ⟨_, rfl⟩
        have e5 : idsR l y (i + 1) = ((idsR l y i).1 ++ [h], if riseH ((idsR l y i).1 ++ [h]) = true then rwN l (idsR l y i).2 32 else nxt (rwN l (idsR l y i).2 32) (.error 2)) := by rw [idsR, hh]
        rw [← hh] at hlh ⊢
        clear hh
        obtain ⟨V1, hV1⟩ : ∃ V1 : St, V1 = U1.add (.box 45 (h.1.map bD)) := ⟨_, rfl⟩
        have hWV : V1.WF := by rw [hV1]; exact hU1.add _
        have nV : V1.next = U1.next + 1 := by rw [hV1]; rfl
        have kV : ∀ j o, U1.ob j = some o → V1.ob j = some o := fun j o e => by have := hU1.lt e; rw [hV1, add_ne this, e]
        have hV0 : V1.ob U1.next = some (.box 45 (h.1.map bD)) := by rw [hV1]; exact add_eq
        have bV := kV _ _ bU
        have rV := kV _ _ rU
        have hrV := hr1.keep fun gr g1 g3 => kV gr _ g3
        have GV : FrM q mb T3 V1 := ⟨by have := G1.next; omega, fun j o h1 h2 e => kV _ _ (G1.ob j o h1 h2 e)⟩
        rw [← hV1]
        clear hV1
        have hlist : (idsR l y i).1.map encH ++ [encH h] = ((idsR l y i).1 ++ [h]).map encH := by simp
        have nU1 : mb < U1.next := by have := hU1.lt bU; omega
        by_cases hi0 : i = 0
        · have c1 : decide ((0 : Int) < (i : Int)) = false := decide_eq_false (by omega)
          have hrs : riseH ((idsR l y i).1 ++ [h]) = true := by subst hi0; exact riseH_one h
          rw [if_pos hrs] at e5
          refine ddraw_mk 13 (by kernel_rfl) ?_
          (simp (disch := first | decide | omega | (simp only [nx]; first | done | omega)) only [go_sem, q5, q6, q11, c1, hlh, hV0, bV]; (repeat with_reducible refine aI ?_))
          refine dapp_hs (own := own2) (es := (idsR l y i).1.map encH) (o := encH h) (hrV.len (by rw [List.length_map, hlen])) (by rw [List.length_map]; omega) (wHs _) (width_encH _) ?_
          rw [List.length_map, hlen, hlist]
          have gb := grow_box (n := i + 1) hWV hrV bV
          have gq := grow_box (n := i + 1) hWV hrV rV
          have gr := RowE.grow (e := 45) (lo := mb + 1) (n := i) (m := i + 1) (own := own2) (T := V1) (by omega)
          have gG : FrM q mb T3 (V1.grow own2 45 (i + 1)) := ⟨by rw [grow_next]; have := GV.next; omega, fun j o hj1 hj2 e => by have := hW3.lt e; exact hrV.low hWV (by omega) (GV.ob j o hj1 hj2 e)⟩
          have gW := hWV.grow own2 45 (i + 1)
          have gn : (V1.grow own2 45 (i + 1)).next = V1.next + 1 := grow_next _ _ _ _
          revert gb gq gr gG gW gn
          generalize V1.grow own2 45 (i + 1) = V
          intro gb gq gr gG gW gn
          (simp (disch := first | decide | omega | (simp only [nx]; first | done | omega)) only [go_sem, q6, gb, q11, w1]; (repeat with_reducible refine aI ?_))
          refine ⟨by omega, (V.set mb (.box 28 (mB 2 (false) (zF) (.sl (.row V1.next) (((idsR l y i).1 ++ [h]).map encH)) (.sl .full [])))).ob, fun _ _ h => h, by omega, by (first | (simp (disch := first | decide | omega | (simp only [nx]; first | done | omega)) only [go_sem, w1]; first | done | rfl) | rfl), .row V1.next, ?_, ?_, ?_, ?_⟩
          · rw [e5]; exact set_eq
          · exact gr.keep fun gr1 g1 g3 => by rw [set_ne (by omega)]; exact g3
          · rw [e5, set_ne (by omega)]; exact gq
          · exact gG.set _
        · have c1 : decide ((0 : Int) < (i : Int)) = true := decide_eq_true (by omega)
          obtain ⟨j, hj⟩ : ∃ j, i = j + 1 := ⟨i - 1, by omega⟩
          have w0 : IntKind.i64.wrap ((i : Int) - 1) = ((j : Nat) : Int) := (IntWalk.i64_in _ ⟨by omega, by omega⟩).trans (by omega)
          have hjl : j < (idsR l y i).1.length := by omega
          have lh2 := (idsR l y i).1[j].2
          have hsn := riseH_snoc (h := h) (i := j) (by omega) hrise
          refine ddraw_mk 13 (by kernel_rfl) ?_
          (simp (disch := first | decide | omega | (simp only [nx]; first | done | omega)) only [go_sem, q5, q6, q11, c1, w0, hjl, hlh, lh2, hV0, bV]; (repeat with_reducible refine aI ?_))
          refine dqgo_mk (rless_d (idsR l y i).1[j] h) ?_
          by_cases hv : valH (idsR l y i).1[j] < valH h
          · have c2 : decide (valH (idsR l y i).1[j] < valH h) = true := decide_eq_true hv
            rw [hsn, if_pos c2] at e5
            (simp (disch := first | decide | omega | (simp only [nx]; first | done | omega)) only [go_sem, q5, q6, q11, c1, c2, hlh, hV0, bV]; (repeat with_reducible refine aI ?_))
            refine dapp_hs (own := own2) (es := (idsR l y i).1.map encH) (o := encH h) (hrV.len (by rw [List.length_map, hlen])) (by rw [List.length_map]; omega) (wHs _) (width_encH _) ?_
            rw [List.length_map, hlen, hlist]
            have gb := grow_box (n := i + 1) hWV hrV bV
            have gq := grow_box (n := i + 1) hWV hrV rV
            have gr := RowE.grow (e := 45) (lo := mb + 1) (n := i) (m := i + 1) (own := own2) (T := V1) (by omega)
            have gG : FrM q mb T3 (V1.grow own2 45 (i + 1)) := ⟨by rw [grow_next]; have := GV.next; omega, fun j o hj1 hj2 e => by have := hW3.lt e; exact hrV.low hWV (by omega) (GV.ob j o hj1 hj2 e)⟩
            have gW := hWV.grow own2 45 (i + 1)
            have gn : (V1.grow own2 45 (i + 1)).next = V1.next + 1 := grow_next _ _ _ _
            revert gb gq gr gG gW gn
            generalize V1.grow own2 45 (i + 1) = V
            intro gb gq gr gG gW gn
            (simp (disch := first | decide | omega | (simp only [nx]; first | done | omega)) only [go_sem, q6, gb, q11, w1]; (repeat with_reducible refine aI ?_))
            refine ⟨by omega, (V.set mb (.box 28 (mB 2 (false) (zF) (.sl (.row V1.next) (((idsR l y i).1 ++ [h]).map encH)) (.sl .full [])))).ob, fun _ _ h => h, by omega, by (first | (simp (disch := first | decide | omega | (simp only [nx]; first | done | omega)) only [go_sem, w1]; first | done | rfl) | rfl), .row V1.next, ?_, ?_, ?_, ?_⟩
            · rw [e5]; exact set_eq
            · exact gr.keep fun gr1 g1 g3 => by rw [set_ne (by omega)]; exact g3
            · rw [e5, set_ne (by omega)]; exact gq
            · exact gG.set _
          · have c2 : decide (valH (idsR l y i).1[j] < valH h) = false := decide_eq_false hv
            rw [hsn, if_neg (by rw [c2]; simp)] at e5
            (simp (disch := first | decide | omega | (simp only [nx]; first | done | omega)) only [go_sem, q5, q6, q11, c1, c2]; (repeat with_reducible refine aI ?_))
            refine (fail_q 2 rV).wf.mono ?_
            rintro _ X1 ⟨⟨rfl, rX, FX⟩, hWX⟩
            have nX := FX.next
            have bX := FX.ob mb _ (by omega) bV
            have hX0 := FX.ob U1.next _ (by omega) hV0
            have hrX := hrV.keep fun gr g1 g3 => FX.ob gr _ (by omega) g3
            have GX := GV.rfr FX
            (simp (disch := first | decide | omega | (simp only [nx]; first | done | omega)) only [go_sem, q5, q6, q11, hlh, hX0, bX]; (repeat with_reducible refine aI ?_))
            refine dapp_hs (own := own2) (es := (idsR l y i).1.map encH) (o := encH h) (hrX.len (by rw [List.length_map, hlen])) (by rw [List.length_map]; omega) (wHs _) (width_encH _) ?_
            rw [List.length_map, hlen, hlist]
            have gb := grow_box (n := i + 1) hWX hrX bX
            have gq := grow_box (n := i + 1) hWX hrX rX
            have gr := RowE.grow (e := 45) (lo := mb + 1) (n := i) (m := i + 1) (own := own2) (T := X1) (by omega)
            have gG : FrM q mb T3 (X1.grow own2 45 (i + 1)) := ⟨by rw [grow_next]; have := GX.next; omega, fun j o hj1 hj2 e => by have := hW3.lt e; exact hrX.low hWX (by omega) (GX.ob j o hj1 hj2 e)⟩
            have gW := hWX.grow own2 45 (i + 1)
            have gn : (X1.grow own2 45 (i + 1)).next = X1.next + 1 := grow_next _ _ _ _
            revert gb gq gr gG gW gn
            generalize X1.grow own2 45 (i + 1) = V
            intro gb gq gr gG gW gn
            (simp (disch := first | decide | omega | (simp only [nx]; first | done | omega)) only [go_sem, q6, gb, q11, w1]; (repeat with_reducible refine aI ?_))
            refine ⟨by omega, (V.set mb (.box 28 (mB 2 (false) (zF) (.sl (.row X1.next) (((idsR l y i).1 ++ [h]).map encH)) (.sl .full [])))).ob, fun _ _ h => h, by omega, by (first | (simp (disch := first | decide | omega | (simp only [nx]; first | done | omega)) only [go_sem, w1]; first | done | rfl) | rfl), .row X1.next, ?_, ?_, ?_, ?_⟩
            · rw [e5]; exact set_eq
            · exact gr.keep fun gr1 g1 g3 => by rw [set_ne (by omega)]; exact g3
            · rw [e5, set_ne (by omega)]; exact gq
            · exact gG.set _
      · have hst : (idsR l y n).2 = (idsR l y i).2 ∧ ((endX l (idsR l y i).2).2.1 = 0 → i = n) := by
          by_cases hc : (idsR l y i).2.2.1 = 0
          · have : i = n := by
              by_cases h : i < n
              · exact absurd ⟨h, hc⟩ hgo
              · omega
            exact ⟨by rw [this], fun _ => this⟩
          · have := ids_stop (l := l) (x := y) hc (n - i)
            rw [show i + (n - i) = n by omega] at this
            refine ⟨this, fun h => absurd (endX_back hle h).1 hc⟩
        have hde2 : (decM l).2 = (idsR l y i).2 := by rw [hdec]; exact hst.1
        have rE : T.ob q = some (qB own l (decM l).2) := by rw [hde2]; exact rT
        have hmE : (endX l (decM l).2).2.1 = 0 → (⟨2, false, zF, (idsR l y i).1, []⟩ : DMs) = (decM l).1 := fun h => by
          rw [hde2] at h
          rw [hdec, hst.2 h]
        by_cases hlt : i < n
        · have d1 : decide ((i : Int) < (n : Int)) = true := decide_eq_true (by omega)
          have d2 : ((idsR l y i).2.2.1 == 0) = false := beq_eq_false_iff_ne.2 fun h => hgo ⟨hlt, h⟩
          (simp (disch := first | decide | omega | (simp only [nx]; first | done | omega)) only [go_sem, q5, q6, q10, q11, d1, rT', d2]; (repeat with_reducible refine aI ?_))
          refine (end_q rE (by rw [show (decM l).2 = (decM l).2 from rfl]; exact decM_le l)).mono ?_
          rintro _ _ ⟨rfl, hTe⟩
          rw [hTe]
          clear hTe
          rw [endX_1, endX_2, show (decM l).2 = (decM l).2 from rfl]
          have hsub : ∀ cs, S.Sub (T.set S.next (.box 28 cs)) := fun cs => ⟨by show S.next ≤ T.next; have := G.next; omega, fun j o e => by have := hS.lt e; rw [set_ne (by omega)]; exact G.ob j o (by omega) (by omega) (kk3 j o e)⟩
          have hzz : T.ob S.next = some (.box 28 (mB 0 false zF (.sl .full []) (.sl .full []))) := G.ob S.next _ (by omega) (by omega) z3
          unfold refDec
          by_cases hc : (endX l (decM l).2).2.1 = 0
          · have e1 : ((endX l (decM l).2).2.1 != 0) = false := by rw [hc]; rfl
            rw [if_pos hc, if_pos hc]
            (simp (disch := first | decide | omega | (simp only [nx]; first | done | omega)) only [go_sem, q2, q5, q6, e1, bT, hzz]; (repeat with_reducible refine aI ?_))
            refine ⟨?_, hsub _⟩
            have hmm := hmE hc
            simp only [D.frz, frzL]
            rw [hc]
            exact congrArg (fun x => D.tup [x, D.v (.int .i64 0), D.v (.int .i64 (-1))]) (by rw [← hmm, ← frz_agg]; exact mB_frz _ _ _ _ [] _ _)
          · have e1 : ((endX l (decM l).2).2.1 != 0) = true := bne_iff_ne.2 hc
            rw [if_neg hc, if_neg hc]
            (simp (disch := first | decide | omega | (simp only [nx]; first | done | omega)) only [go_sem, q2, q5, q6, e1, hzz]; (repeat with_reducible refine aI ?_))
            rw [mB_z]
            refine ⟨?_, hsub _⟩
            simp only [D.frz, frzL]
            exact congrArg (fun x => D.tup [x, D.v (.int .i64 _), D.v (.int .i64 _)]) (by rw [← frz_agg]; exact mB_frz 0 false zF [] [] .full .full)
        · have d1 : decide ((i : Int) < (n : Int)) = false := decide_eq_false (by omega)
          (simp (disch := first | decide | omega | (simp only [nx]; first | done | omega)) only [go_sem, q5, q6, q10, q11, d1]; (repeat with_reducible refine aI ?_))
          refine (end_q rE (by rw [show (decM l).2 = (decM l).2 from rfl]; exact decM_le l)).mono ?_
          rintro _ _ ⟨rfl, hTe⟩
          rw [hTe]
          clear hTe
          rw [endX_1, endX_2, show (decM l).2 = (decM l).2 from rfl]
          have hsub : ∀ cs, S.Sub (T.set S.next (.box 28 cs)) := fun cs => ⟨by show S.next ≤ T.next; have := G.next; omega, fun j o e => by have := hS.lt e; rw [set_ne (by omega)]; exact G.ob j o (by omega) (by omega) (kk3 j o e)⟩
          have hzz : T.ob S.next = some (.box 28 (mB 0 false zF (.sl .full []) (.sl .full []))) := G.ob S.next _ (by omega) (by omega) z3
          unfold refDec
          by_cases hc : (endX l (decM l).2).2.1 = 0
          · have e1 : ((endX l (decM l).2).2.1 != 0) = false := by rw [hc]; rfl
            rw [if_pos hc, if_pos hc]
            (simp (disch := first | decide | omega | (simp only [nx]; first | done | omega)) only [go_sem, q2, q5, q6, e1, bT, hzz]; (repeat with_reducible refine aI ?_))
            refine ⟨?_, hsub _⟩
            have hmm := hmE hc
            simp only [D.frz, frzL]
            rw [hc]
            exact congrArg (fun x => D.tup [x, D.v (.int .i64 0), D.v (.int .i64 (-1))]) (by rw [← hmm, ← frz_agg]; exact mB_frz _ _ _ _ [] _ _)
          · have e1 : ((endX l (decM l).2).2.1 != 0) = true := bne_iff_ne.2 hc
            rw [if_neg hc, if_neg hc]
            (simp (disch := first | decide | omega | (simp only [nx]; first | done | omega)) only [go_sem, q2, q5, q6, e1, hzz]; (repeat with_reducible refine aI ?_))
            rw [mB_z]
            refine ⟨?_, hsub _⟩
            simp only [D.frz, frzL]
            exact congrArg (fun x => D.tup [x, D.v (.int .i64 _), D.v (.int .i64 _)]) (by rw [← frz_agg]; exact mB_frz 0 false zF [] [] .full .full)
  by_cases h3 : byV l x0 = 3
  · have hku : (((3 : UInt8).toNat : Nat) : Int) = 3 := rfl
    rw [h3, hku] at wk b3 hT3
    have g1 : decide ((3 : Int) < 1) = false := by decide
    have g2 : decide ((3 : Int) < 3) = false := by decide
    have g3 : ((3 : Int) == 1) = false := by decide
    have f1 : ((3 : Int) != 1) = true := by decide
    (simp (disch := first | decide | omega | (simp only [nx]; first | done | omega)) only [go_sem, bD_eq, h3, hku, cv_u8i64, wk]; (repeat with_reducible refine aI ?_))
    rw [mB_z, add_setq, ← hT3, ← hmb]
    clear hT3
    (simp (disch := first | decide | omega | (simp only [nx]; first | done | omega)) only [go_sem, b3, g1, g2, g3]; (repeat with_reducible refine aI ?_))
    refine (rcount_q (b := 8) r3 hlb hl (by omega)).wf.mono ?_
    rintro _ T8 ⟨⟨rfl, r8, F8⟩, hW8⟩
    have n8 := F8.next
    have b8 := F8.ob mb _ (by omega) b3
    have G8 := (FrM.refl q mb T3).rfr F8
    have hb8 := cnt_most l (byN l x0) 0 8
    have hl8 := cnt_le (a := 0) (b := 8) hlb
    by_cases hn0 : (cntR l (byN l x0) 0 8).1 = 0
    · have hd0 : decM l = (⟨3, false, zF, [], (esR l (nxt (cntR l (byN l x0) 0 8).2 (.error 2)) ((cntR l (byN l x0) 0 8).1)).1⟩, (esR l (nxt (cntR l (byN l x0) 0 8).2 (.error 2)) ((cntR l (byN l x0) 0 8).1)).2) := by rw [decM, if_neg h1, if_neg h2, if_pos h3, cnt_least, if_pos hn0, hn0]
      have c1 : (((cntR l (byN l x0) 0 8).1 : Int) == 0) = true := beq_iff_eq.2 (by omega)
      (simp (disch := first | decide | omega | (simp only [nx]; first | done | omega)) only [go_sem, b8, c1, f1]; (repeat with_reducible refine aI ?_))
      refine (fail_q 2 r8).wf.mono ?_
      rintro _ T9 ⟨⟨rfl, r9, F9⟩, hW9⟩
      have n9 := F9.next
      have b9 := F9.ob mb _ (by omega) b8
      have G9 := G8.rfr F9
      have r9 : T9.ob q = some (qB own l (nxt (cntR l (byN l x0) 0 8).2 (.error 2))) := r9
      (simp (disch := first | decide | omega | (simp only [nx]; first | done | omega)) only [go_sem]; (repeat with_reducible refine aI ?_))
      have hdec : decM l = (⟨3, false, zF, [], (esR l (nxt (cntR l (byN l x0) 0 8).2 (.error 2)) ((cntR l (byN l x0) 0 8).1)).1⟩, (esR l (nxt (cntR l (byN l x0) 0 8).2 (.error 2)) ((cntR l (byN l x0) 0 8).1)).2) := hd0
      have hyl : (nxt (cntR l (byN l x0) 0 8).2 (.error 2)).1 ≤ l.length := er_le hl8
      clear hn0 c1
      have hnn : (cntR l (byN l x0) 0 8).1 ≤ 64 := (Nat.le_trans hb8 (by omega))
      generalize nxt (cntR l (byN l x0) 0 8).2 (.error 2) = y at *
      generalize (cntR l (byN l x0) 0 8).1 = n at *
      refine dloop_up (fun t => List.contains [11, 12, 13, 66, 67, 68, 69, 70, 71, 72, 73, 74, 75, 76, 77, 78, 79, 80, 81, 82, 83, 84, 85, 86, 87, 88, 89, 90, 91, 92, 93, 94, 95, 96, 97, 98, 99, 100, 101, 102, 103, 104, 105, 106, 107, 108, 109, 110, 111, 112, 113, 114, 115, 116] t) (by kernel_rfl) (by exact hW9) n (fun i g T => i ≤ n ∧ g 11 = .v (.int .i64 ((i : Nat) : Int)) ∧ ∃ own2, T.ob mb = some (.box 28 (mB 3 false zF (.sl .full []) (.sl own2 ((esR l y i).1.map encB)))) ∧ RowE 22 (mb + 1) own2 i T ∧ T.ob q = some (qB own l (esR l y i).2) ∧ FrM q mb T3 T)
        ⟨by omega, by (first | (simp (disch := first | decide | omega | (simp only [nx]; first | done | omega)) only [go_sem]; first | done | rfl) | rfl), .full, b9, .inl ⟨rfl, rfl⟩, r9, G9⟩ ?_
      rintro i g T hT hg ⟨le, q11, own2, bT, hrow, rT, G⟩
      (have q2 := hg 2 rfl; have q3 := hg 3 rfl; have q4 := hg 4 rfl; have q5 := hg 5 rfl; have q6 := hg 6 rfl; have q10 := hg 10 rfl; simp (disch := first | decide | omega | (simp only [nx]; first | done | omega)) only [go_sem] at q2 q3 q4 q5 q6 q10; clear hg)
      have nG := G.next
      have hle := es_le (l := l) (x := y) hyl i
      have hlen := es_len (l := l) (x := y) i
      have rT' : T.ob q = some (.box 60 [.sl own (l.map bD), .v (.int .i64 ((esR l y i).2.1 : Int)), .v (.int .i64 (esR l y i).2.2.1), .v (.int .i64 (esR l y i).2.2.2)]) := rT
      by_cases hgo : i < n ∧ (esR l y i).2.2.1 = 0
      · obtain ⟨hlt, hc0⟩ := hgo
        have d1 : decide ((i : Int) < (n : Int)) = true := decide_eq_true (by omega)
        have d2 : ((esR l y i).2.2.1 == 0) = true := by rw [hc0]; rfl
        have d3 : ((3 : Int) == 3) = true := by decide
        have w1 : IntKind.i64.wrap ((i : Int) + 1) = ((i + 1 : Nat) : Int) := IntWalk.i64_in _ ⟨by omega, by omega⟩
        (simp (disch := first | decide | omega | (simp only [nx]; first | done | omega)) only [go_sem, q5, q6, q10, q11, d1, rT', d2, bT, d3]; (repeat with_reducible refine aI ?_))
        refine (bytesN_q (mx := 4096) (by unfold IsI64; omega) rT hle hl).wf.mono ?_
        rintro _ U1 ⟨⟨rfl, rU, F1⟩, hU1⟩
        have e4 : (4096 : Int).toNat = 4096 := rfl
        rw [e4] at rU ⊢
        have nU := F1.next
        have bU := F1.ob mb _ (by omega) bT
        have hr1 := hrow.keep fun gr g1 g3 => F1.ob gr _ (by omega) g3
        have G1 : FrM q mb T3 U1 := G.rfr F1
        obtain ⟨X, hX⟩ : ∃ X, X = bsV l (esR l y i).2 4096 := ⟨_, rfl⟩
        have e5 : esR l y (i + 1) = ((esR l y i).1 ++ [X], if X.length = 0 then nxt (bsN l (esR l y i).2 4096) (.error 2) else bsN l (esR l y i).2 4096) := by rw [esR, hX]
        have hlist : (esR l y i).1.map encB ++ [encB X] = ((esR l y i).1 ++ [X]).map encB := by simp
        rw [← hX]
        clear hX
        have ce : encB X = .sl .no (X.map bD) := rfl
        by_cases h0 : X.length = 0
        · have c1 : ((X.length : Int) == 0) = true := beq_iff_eq.2 (by omega)
          rw [if_pos h0] at e5
          (simp (disch := first | decide | omega | (simp only [nx]; first | done | omega)) only [go_sem, q5, ce, c1]; (repeat with_reducible refine aI ?_))
          refine (fail_q 2 rU).wf.mono ?_
          rintro _ X1 ⟨⟨rfl, rX, FX⟩, hWX⟩
          have nX := FX.next
          have bX := FX.ob mb _ (by omega) bU
          have hrX := hr1.keep fun gr g1 g3 => FX.ob gr _ (by omega) g3
          have GX := G1.rfr FX
          (simp (disch := first | decide | omega | (simp only [nx]; first | done | omega)) only [go_sem, q5, q6, q11, bX]; (repeat with_reducible refine aI ?_))
          refine dapp_es (own := own2) (es := (esR l y i).1.map encB) (o := encB X) (hrX.len (by rw [List.length_map, hlen])) (by rw [List.length_map]; omega) (fun d hd => by obtain ⟨b, _, rfl⟩ := List.mem_map.1 hd; rfl) (by rfl) ?_
          rw [List.length_map, hlen, hlist]
          have gb := grow_box (n := i + 1) hWX hrX bX
          have gq := grow_box (n := i + 1) hWX hrX rX
          have gr := RowE.grow (e := 22) (lo := mb + 1) (n := i) (m := i + 1) (own := own2) (T := X1) (by omega)
          have gG : FrM q mb T3 (X1.grow own2 22 (i + 1)) := ⟨by rw [grow_next]; have := GX.next; omega, fun j o hj1 hj2 e => by have := hW3.lt e; exact hrX.low hWX (by omega) (GX.ob j o hj1 hj2 e)⟩
          have gW := hWX.grow own2 22 (i + 1)
          have gn : (X1.grow own2 22 (i + 1)).next = X1.next + 1 := grow_next _ _ _ _
          revert gb gq gr gG gW gn
          generalize X1.grow own2 22 (i + 1) = V
          intro gb gq gr gG gW gn
          (simp (disch := first | decide | omega | (simp only [nx]; first | done | omega)) only [go_sem, q6, gb, q11, w1]; (repeat with_reducible refine aI ?_))
          refine ⟨by omega, (V.set mb (.box 28 (mB 3 false zF (.sl .full []) (.sl (.row X1.next) (((esR l y i).1 ++ [X]).map encB))))).ob, fun _ _ h => h, by omega, by (first | (simp (disch := first | decide | omega | (simp only [nx]; first | done | omega)) only [go_sem, w1]; first | done | rfl) | rfl), .row X1.next, ?_, ?_, ?_, ?_⟩
          · rw [e5]; exact set_eq
          · exact gr.keep fun gr1 g1 g3 => by rw [set_ne (by omega)]; exact g3
          · rw [e5, set_ne (by omega)]; exact gq
          · exact gG.set _
        · have c1 : ((X.length : Int) == 0) = false := beq_eq_false_iff_ne.2 (by omega)
          rw [if_neg h0] at e5
          (simp (disch := first | decide | omega | (simp only [nx]; first | done | omega)) only [go_sem, q5, q6, q11, ce, c1, bU]; (repeat with_reducible refine aI ?_))
          refine dapp_es (own := own2) (es := (esR l y i).1.map encB) (o := encB X) (hr1.len (by rw [List.length_map, hlen])) (by rw [List.length_map]; omega) (fun d hd => by obtain ⟨b, _, rfl⟩ := List.mem_map.1 hd; rfl) (by rfl) ?_
          rw [List.length_map, hlen, hlist]
          have gb := grow_box (n := i + 1) hU1 hr1 bU
          have gq := grow_box (n := i + 1) hU1 hr1 rU
          have gr := RowE.grow (e := 22) (lo := mb + 1) (n := i) (m := i + 1) (own := own2) (T := U1) (by omega)
          have gG : FrM q mb T3 (U1.grow own2 22 (i + 1)) := ⟨by rw [grow_next]; have := G1.next; omega, fun j o hj1 hj2 e => by have := hW3.lt e; exact hr1.low hU1 (by omega) (G1.ob j o hj1 hj2 e)⟩
          have gW := hU1.grow own2 22 (i + 1)
          have gn : (U1.grow own2 22 (i + 1)).next = U1.next + 1 := grow_next _ _ _ _
          revert gb gq gr gG gW gn
          generalize U1.grow own2 22 (i + 1) = V
          intro gb gq gr gG gW gn
          (simp (disch := first | decide | omega | (simp only [nx]; first | done | omega)) only [go_sem, q6, gb, q11, w1]; (repeat with_reducible refine aI ?_))
          refine ⟨by omega, (V.set mb (.box 28 (mB 3 false zF (.sl .full []) (.sl (.row U1.next) (((esR l y i).1 ++ [X]).map encB))))).ob, fun _ _ h => h, by omega, by (first | (simp (disch := first | decide | omega | (simp only [nx]; first | done | omega)) only [go_sem, w1]; first | done | rfl) | rfl), .row U1.next, ?_, ?_, ?_, ?_⟩
          · rw [e5]; exact set_eq
          · exact gr.keep fun gr1 g1 g3 => by rw [set_ne (by omega)]; exact g3
          · rw [e5, set_ne (by omega)]; exact gq
          · exact gG.set _
      · have hst : (esR l y n).2 = (esR l y i).2 ∧ ((endX l (esR l y i).2).2.1 = 0 → i = n) := by
          by_cases hc : (esR l y i).2.2.1 = 0
          · have : i = n := by
              by_cases h : i < n
              · exact absurd ⟨h, hc⟩ hgo
              · omega
            exact ⟨by rw [this], fun _ => this⟩
          · have := es_stop (l := l) (x := y) hc (n - i)
            rw [show i + (n - i) = n by omega] at this
            refine ⟨this, fun h => absurd (endX_back hle h).1 hc⟩
        have hde2 : (decM l).2 = (esR l y i).2 := by rw [hdec]; exact hst.1
        have rE : T.ob q = some (qB own l (decM l).2) := by rw [hde2]; exact rT
        have hmE : (endX l (decM l).2).2.1 = 0 → (⟨3, false, zF, [], (esR l y i).1⟩ : DMs) = (decM l).1 := fun h => by
          rw [hde2] at h
          rw [hdec, hst.2 h]
        by_cases hlt : i < n
        · have d1 : decide ((i : Int) < (n : Int)) = true := decide_eq_true (by omega)
          have d2 : ((esR l y i).2.2.1 == 0) = false := beq_eq_false_iff_ne.2 fun h => hgo ⟨hlt, h⟩
          (simp (disch := first | decide | omega | (simp only [nx]; first | done | omega)) only [go_sem, q5, q6, q10, q11, d1, rT', d2]; (repeat with_reducible refine aI ?_))
          refine (end_q rE (by rw [show (decM l).2 = (decM l).2 from rfl]; exact decM_le l)).mono ?_
          rintro _ _ ⟨rfl, hTe⟩
          rw [hTe]
          clear hTe
          rw [endX_1, endX_2, show (decM l).2 = (decM l).2 from rfl]
          have hsub : ∀ cs, S.Sub (T.set S.next (.box 28 cs)) := fun cs => ⟨by show S.next ≤ T.next; have := G.next; omega, fun j o e => by have := hS.lt e; rw [set_ne (by omega)]; exact G.ob j o (by omega) (by omega) (kk3 j o e)⟩
          have hzz : T.ob S.next = some (.box 28 (mB 0 false zF (.sl .full []) (.sl .full []))) := G.ob S.next _ (by omega) (by omega) z3
          unfold refDec
          by_cases hc : (endX l (decM l).2).2.1 = 0
          · have e1 : ((endX l (decM l).2).2.1 != 0) = false := by rw [hc]; rfl
            rw [if_pos hc, if_pos hc]
            (simp (disch := first | decide | omega | (simp only [nx]; first | done | omega)) only [go_sem, q2, q5, q6, e1, bT, hzz]; (repeat with_reducible refine aI ?_))
            refine ⟨?_, hsub _⟩
            have hmm := hmE hc
            simp only [D.frz, frzL]
            rw [hc]
            exact congrArg (fun x => D.tup [x, D.v (.int .i64 0), D.v (.int .i64 (-1))]) (by rw [← hmm, ← frz_agg]; exact mB_frz _ _ _ [] _ _ _)
          · have e1 : ((endX l (decM l).2).2.1 != 0) = true := bne_iff_ne.2 hc
            rw [if_neg hc, if_neg hc]
            (simp (disch := first | decide | omega | (simp only [nx]; first | done | omega)) only [go_sem, q2, q5, q6, e1, hzz]; (repeat with_reducible refine aI ?_))
            rw [mB_z]
            refine ⟨?_, hsub _⟩
            simp only [D.frz, frzL]
            exact congrArg (fun x => D.tup [x, D.v (.int .i64 _), D.v (.int .i64 _)]) (by rw [← frz_agg]; exact mB_frz 0 false zF [] [] .full .full)
        · have d1 : decide ((i : Int) < (n : Int)) = false := decide_eq_false (by omega)
          (simp (disch := first | decide | omega | (simp only [nx]; first | done | omega)) only [go_sem, q5, q6, q10, q11, d1]; (repeat with_reducible refine aI ?_))
          refine (end_q rE (by rw [show (decM l).2 = (decM l).2 from rfl]; exact decM_le l)).mono ?_
          rintro _ _ ⟨rfl, hTe⟩
          rw [hTe]
          clear hTe
          rw [endX_1, endX_2, show (decM l).2 = (decM l).2 from rfl]
          have hsub : ∀ cs, S.Sub (T.set S.next (.box 28 cs)) := fun cs => ⟨by show S.next ≤ T.next; have := G.next; omega, fun j o e => by have := hS.lt e; rw [set_ne (by omega)]; exact G.ob j o (by omega) (by omega) (kk3 j o e)⟩
          have hzz : T.ob S.next = some (.box 28 (mB 0 false zF (.sl .full []) (.sl .full []))) := G.ob S.next _ (by omega) (by omega) z3
          unfold refDec
          by_cases hc : (endX l (decM l).2).2.1 = 0
          · have e1 : ((endX l (decM l).2).2.1 != 0) = false := by rw [hc]; rfl
            rw [if_pos hc, if_pos hc]
            (simp (disch := first | decide | omega | (simp only [nx]; first | done | omega)) only [go_sem, q2, q5, q6, e1, bT, hzz]; (repeat with_reducible refine aI ?_))
            refine ⟨?_, hsub _⟩
            have hmm := hmE hc
            simp only [D.frz, frzL]
            rw [hc]
            exact congrArg (fun x => D.tup [x, D.v (.int .i64 0), D.v (.int .i64 (-1))]) (by rw [← hmm, ← frz_agg]; exact mB_frz _ _ _ [] _ _ _)
          · have e1 : ((endX l (decM l).2).2.1 != 0) = true := bne_iff_ne.2 hc
            rw [if_neg hc, if_neg hc]
            (simp (disch := first | decide | omega | (simp only [nx]; first | done | omega)) only [go_sem, q2, q5, q6, e1, hzz]; (repeat with_reducible refine aI ?_))
            rw [mB_z]
            refine ⟨?_, hsub _⟩
            simp only [D.frz, frzL]
            exact congrArg (fun x => D.tup [x, D.v (.int .i64 _), D.v (.int .i64 _)]) (by rw [← frz_agg]; exact mB_frz 0 false zF [] [] .full .full)
    · have hd0 : decM l = (⟨3, false, zF, [], (esR l ((cntR l (byN l x0) 0 8).2) ((cntR l (byN l x0) 0 8).1)).1⟩, (esR l ((cntR l (byN l x0) 0 8).2) ((cntR l (byN l x0) 0 8).1)).2) := by rw [decM, if_neg h1, if_neg h2, if_pos h3, cnt_least, if_neg hn0]
      have c1 : (((cntR l (byN l x0) 0 8).1 : Int) == 0) = false := beq_eq_false_iff_ne.2 (by omega)
      (simp (disch := first | decide | omega | (simp only [nx]; first | done | omega)) only [go_sem, b8, c1, f1]; (repeat with_reducible refine aI ?_))
      have hdec : decM l = (⟨3, false, zF, [], (esR l ((cntR l (byN l x0) 0 8).2) ((cntR l (byN l x0) 0 8).1)).1⟩, (esR l ((cntR l (byN l x0) 0 8).2) ((cntR l (byN l x0) 0 8).1)).2) := hd0
      have hyl : ((cntR l (byN l x0) 0 8).2).1 ≤ l.length := hl8
      clear hn0 c1
      have hnn : (cntR l (byN l x0) 0 8).1 ≤ 64 := (Nat.le_trans hb8 (by omega))
      generalize (cntR l (byN l x0) 0 8).2 = y at *
      generalize (cntR l (byN l x0) 0 8).1 = n at *
      refine dloop_up (fun t => List.contains [11, 12, 13, 66, 67, 68, 69, 70, 71, 72, 73, 74, 75, 76, 77, 78, 79, 80, 81, 82, 83, 84, 85, 86, 87, 88, 89, 90, 91, 92, 93, 94, 95, 96, 97, 98, 99, 100, 101, 102, 103, 104, 105, 106, 107, 108, 109, 110, 111, 112, 113, 114, 115, 116] t) (by kernel_rfl) (by exact hW8) n (fun i g T => i ≤ n ∧ g 11 = .v (.int .i64 ((i : Nat) : Int)) ∧ ∃ own2, T.ob mb = some (.box 28 (mB 3 false zF (.sl .full []) (.sl own2 ((esR l y i).1.map encB)))) ∧ RowE 22 (mb + 1) own2 i T ∧ T.ob q = some (qB own l (esR l y i).2) ∧ FrM q mb T3 T)
        ⟨by omega, by (first | (simp (disch := first | decide | omega | (simp only [nx]; first | done | omega)) only [go_sem]; first | done | rfl) | rfl), .full, b8, .inl ⟨rfl, rfl⟩, r8, G8⟩ ?_
      rintro i g T hT hg ⟨le, q11, own2, bT, hrow, rT, G⟩
      (have q2 := hg 2 rfl; have q3 := hg 3 rfl; have q4 := hg 4 rfl; have q5 := hg 5 rfl; have q6 := hg 6 rfl; have q10 := hg 10 rfl; simp (disch := first | decide | omega | (simp only [nx]; first | done | omega)) only [go_sem] at q2 q3 q4 q5 q6 q10; clear hg)
      have nG := G.next
      have hle := es_le (l := l) (x := y) hyl i
      have hlen := es_len (l := l) (x := y) i
      have rT' : T.ob q = some (.box 60 [.sl own (l.map bD), .v (.int .i64 ((esR l y i).2.1 : Int)), .v (.int .i64 (esR l y i).2.2.1), .v (.int .i64 (esR l y i).2.2.2)]) := rT
      by_cases hgo : i < n ∧ (esR l y i).2.2.1 = 0
      · obtain ⟨hlt, hc0⟩ := hgo
        have d1 : decide ((i : Int) < (n : Int)) = true := decide_eq_true (by omega)
        have d2 : ((esR l y i).2.2.1 == 0) = true := by rw [hc0]; rfl
        have d3 : ((3 : Int) == 3) = true := by decide
        have w1 : IntKind.i64.wrap ((i : Int) + 1) = ((i + 1 : Nat) : Int) := IntWalk.i64_in _ ⟨by omega, by omega⟩
        (simp (disch := first | decide | omega | (simp only [nx]; first | done | omega)) only [go_sem, q5, q6, q10, q11, d1, rT', d2, bT, d3]; (repeat with_reducible refine aI ?_))
        refine (bytesN_q (mx := 4096) (by unfold IsI64; omega) rT hle hl).wf.mono ?_
        rintro _ U1 ⟨⟨rfl, rU, F1⟩, hU1⟩
        have e4 : (4096 : Int).toNat = 4096 := rfl
        rw [e4] at rU ⊢
        have nU := F1.next
        have bU := F1.ob mb _ (by omega) bT
        have hr1 := hrow.keep fun gr g1 g3 => F1.ob gr _ (by omega) g3
        have G1 : FrM q mb T3 U1 := G.rfr F1
        obtain ⟨X, hX⟩ : ∃ X, X = bsV l (esR l y i).2 4096 := ⟨_, rfl⟩
        have e5 : esR l y (i + 1) = ((esR l y i).1 ++ [X], if X.length = 0 then nxt (bsN l (esR l y i).2 4096) (.error 2) else bsN l (esR l y i).2 4096) := by rw [esR, hX]
        have hlist : (esR l y i).1.map encB ++ [encB X] = ((esR l y i).1 ++ [X]).map encB := by simp
        rw [← hX]
        clear hX
        have ce : encB X = .sl .no (X.map bD) := rfl
        by_cases h0 : X.length = 0
        · have c1 : ((X.length : Int) == 0) = true := beq_iff_eq.2 (by omega)
          rw [if_pos h0] at e5
          (simp (disch := first | decide | omega | (simp only [nx]; first | done | omega)) only [go_sem, q5, ce, c1]; (repeat with_reducible refine aI ?_))
          refine (fail_q 2 rU).wf.mono ?_
          rintro _ X1 ⟨⟨rfl, rX, FX⟩, hWX⟩
          have nX := FX.next
          have bX := FX.ob mb _ (by omega) bU
          have hrX := hr1.keep fun gr g1 g3 => FX.ob gr _ (by omega) g3
          have GX := G1.rfr FX
          (simp (disch := first | decide | omega | (simp only [nx]; first | done | omega)) only [go_sem, q5, q6, q11, bX]; (repeat with_reducible refine aI ?_))
          refine dapp_es (own := own2) (es := (esR l y i).1.map encB) (o := encB X) (hrX.len (by rw [List.length_map, hlen])) (by rw [List.length_map]; omega) (fun d hd => by obtain ⟨b, _, rfl⟩ := List.mem_map.1 hd; rfl) (by rfl) ?_
          rw [List.length_map, hlen, hlist]
          have gb := grow_box (n := i + 1) hWX hrX bX
          have gq := grow_box (n := i + 1) hWX hrX rX
          have gr := RowE.grow (e := 22) (lo := mb + 1) (n := i) (m := i + 1) (own := own2) (T := X1) (by omega)
          have gG : FrM q mb T3 (X1.grow own2 22 (i + 1)) := ⟨by rw [grow_next]; have := GX.next; omega, fun j o hj1 hj2 e => by have := hW3.lt e; exact hrX.low hWX (by omega) (GX.ob j o hj1 hj2 e)⟩
          have gW := hWX.grow own2 22 (i + 1)
          have gn : (X1.grow own2 22 (i + 1)).next = X1.next + 1 := grow_next _ _ _ _
          revert gb gq gr gG gW gn
          generalize X1.grow own2 22 (i + 1) = V
          intro gb gq gr gG gW gn
          (simp (disch := first | decide | omega | (simp only [nx]; first | done | omega)) only [go_sem, q6, gb, q11, w1]; (repeat with_reducible refine aI ?_))
          refine ⟨by omega, (V.set mb (.box 28 (mB 3 false zF (.sl .full []) (.sl (.row X1.next) (((esR l y i).1 ++ [X]).map encB))))).ob, fun _ _ h => h, by omega, by (first | (simp (disch := first | decide | omega | (simp only [nx]; first | done | omega)) only [go_sem, w1]; first | done | rfl) | rfl), .row X1.next, ?_, ?_, ?_, ?_⟩
          · rw [e5]; exact set_eq
          · exact gr.keep fun gr1 g1 g3 => by rw [set_ne (by omega)]; exact g3
          · rw [e5, set_ne (by omega)]; exact gq
          · exact gG.set _
        · have c1 : ((X.length : Int) == 0) = false := beq_eq_false_iff_ne.2 (by omega)
          rw [if_neg h0] at e5
          (simp (disch := first | decide | omega | (simp only [nx]; first | done | omega)) only [go_sem, q5, q6, q11, ce, c1, bU]; (repeat with_reducible refine aI ?_))
          refine dapp_es (own := own2) (es := (esR l y i).1.map encB) (o := encB X) (hr1.len (by rw [List.length_map, hlen])) (by rw [List.length_map]; omega) (fun d hd => by obtain ⟨b, _, rfl⟩ := List.mem_map.1 hd; rfl) (by rfl) ?_
          rw [List.length_map, hlen, hlist]
          have gb := grow_box (n := i + 1) hU1 hr1 bU
          have gq := grow_box (n := i + 1) hU1 hr1 rU
          have gr := RowE.grow (e := 22) (lo := mb + 1) (n := i) (m := i + 1) (own := own2) (T := U1) (by omega)
          have gG : FrM q mb T3 (U1.grow own2 22 (i + 1)) := ⟨by rw [grow_next]; have := G1.next; omega, fun j o hj1 hj2 e => by have := hW3.lt e; exact hr1.low hU1 (by omega) (G1.ob j o hj1 hj2 e)⟩
          have gW := hU1.grow own2 22 (i + 1)
          have gn : (U1.grow own2 22 (i + 1)).next = U1.next + 1 := grow_next _ _ _ _
          revert gb gq gr gG gW gn
          generalize U1.grow own2 22 (i + 1) = V
          intro gb gq gr gG gW gn
          (simp (disch := first | decide | omega | (simp only [nx]; first | done | omega)) only [go_sem, q6, gb, q11, w1]; (repeat with_reducible refine aI ?_))
          refine ⟨by omega, (V.set mb (.box 28 (mB 3 false zF (.sl .full []) (.sl (.row U1.next) (((esR l y i).1 ++ [X]).map encB))))).ob, fun _ _ h => h, by omega, by (first | (simp (disch := first | decide | omega | (simp only [nx]; first | done | omega)) only [go_sem, w1]; first | done | rfl) | rfl), .row U1.next, ?_, ?_, ?_, ?_⟩
          · rw [e5]; exact set_eq
          · exact gr.keep fun gr1 g1 g3 => by rw [set_ne (by omega)]; exact g3
          · rw [e5, set_ne (by omega)]; exact gq
          · exact gG.set _
      · have hst : (esR l y n).2 = (esR l y i).2 ∧ ((endX l (esR l y i).2).2.1 = 0 → i = n) := by
          by_cases hc : (esR l y i).2.2.1 = 0
          · have : i = n := by
              by_cases h : i < n
              · exact absurd ⟨h, hc⟩ hgo
              · omega
            exact ⟨by rw [this], fun _ => this⟩
          · have := es_stop (l := l) (x := y) hc (n - i)
            rw [show i + (n - i) = n by omega] at this
            refine ⟨this, fun h => absurd (endX_back hle h).1 hc⟩
        have hde2 : (decM l).2 = (esR l y i).2 := by rw [hdec]; exact hst.1
        have rE : T.ob q = some (qB own l (decM l).2) := by rw [hde2]; exact rT
        have hmE : (endX l (decM l).2).2.1 = 0 → (⟨3, false, zF, [], (esR l y i).1⟩ : DMs) = (decM l).1 := fun h => by
          rw [hde2] at h
          rw [hdec, hst.2 h]
        by_cases hlt : i < n
        · have d1 : decide ((i : Int) < (n : Int)) = true := decide_eq_true (by omega)
          have d2 : ((esR l y i).2.2.1 == 0) = false := beq_eq_false_iff_ne.2 fun h => hgo ⟨hlt, h⟩
          (simp (disch := first | decide | omega | (simp only [nx]; first | done | omega)) only [go_sem, q5, q6, q10, q11, d1, rT', d2]; (repeat with_reducible refine aI ?_))
          refine (end_q rE (by rw [show (decM l).2 = (decM l).2 from rfl]; exact decM_le l)).mono ?_
          rintro _ _ ⟨rfl, hTe⟩
          rw [hTe]
          clear hTe
          rw [endX_1, endX_2, show (decM l).2 = (decM l).2 from rfl]
          have hsub : ∀ cs, S.Sub (T.set S.next (.box 28 cs)) := fun cs => ⟨by show S.next ≤ T.next; have := G.next; omega, fun j o e => by have := hS.lt e; rw [set_ne (by omega)]; exact G.ob j o (by omega) (by omega) (kk3 j o e)⟩
          have hzz : T.ob S.next = some (.box 28 (mB 0 false zF (.sl .full []) (.sl .full []))) := G.ob S.next _ (by omega) (by omega) z3
          unfold refDec
          by_cases hc : (endX l (decM l).2).2.1 = 0
          · have e1 : ((endX l (decM l).2).2.1 != 0) = false := by rw [hc]; rfl
            rw [if_pos hc, if_pos hc]
            (simp (disch := first | decide | omega | (simp only [nx]; first | done | omega)) only [go_sem, q2, q5, q6, e1, bT, hzz]; (repeat with_reducible refine aI ?_))
            refine ⟨?_, hsub _⟩
            have hmm := hmE hc
            simp only [D.frz, frzL]
            rw [hc]
            exact congrArg (fun x => D.tup [x, D.v (.int .i64 0), D.v (.int .i64 (-1))]) (by rw [← hmm, ← frz_agg]; exact mB_frz _ _ _ [] _ _ _)
          · have e1 : ((endX l (decM l).2).2.1 != 0) = true := bne_iff_ne.2 hc
            rw [if_neg hc, if_neg hc]
            (simp (disch := first | decide | omega | (simp only [nx]; first | done | omega)) only [go_sem, q2, q5, q6, e1, hzz]; (repeat with_reducible refine aI ?_))
            rw [mB_z]
            refine ⟨?_, hsub _⟩
            simp only [D.frz, frzL]
            exact congrArg (fun x => D.tup [x, D.v (.int .i64 _), D.v (.int .i64 _)]) (by rw [← frz_agg]; exact mB_frz 0 false zF [] [] .full .full)
        · have d1 : decide ((i : Int) < (n : Int)) = false := decide_eq_false (by omega)
          (simp (disch := first | decide | omega | (simp only [nx]; first | done | omega)) only [go_sem, q5, q6, q10, q11, d1]; (repeat with_reducible refine aI ?_))
          refine (end_q rE (by rw [show (decM l).2 = (decM l).2 from rfl]; exact decM_le l)).mono ?_
          rintro _ _ ⟨rfl, hTe⟩
          rw [hTe]
          clear hTe
          rw [endX_1, endX_2, show (decM l).2 = (decM l).2 from rfl]
          have hsub : ∀ cs, S.Sub (T.set S.next (.box 28 cs)) := fun cs => ⟨by show S.next ≤ T.next; have := G.next; omega, fun j o e => by have := hS.lt e; rw [set_ne (by omega)]; exact G.ob j o (by omega) (by omega) (kk3 j o e)⟩
          have hzz : T.ob S.next = some (.box 28 (mB 0 false zF (.sl .full []) (.sl .full []))) := G.ob S.next _ (by omega) (by omega) z3
          unfold refDec
          by_cases hc : (endX l (decM l).2).2.1 = 0
          · have e1 : ((endX l (decM l).2).2.1 != 0) = false := by rw [hc]; rfl
            rw [if_pos hc, if_pos hc]
            (simp (disch := first | decide | omega | (simp only [nx]; first | done | omega)) only [go_sem, q2, q5, q6, e1, bT, hzz]; (repeat with_reducible refine aI ?_))
            refine ⟨?_, hsub _⟩
            have hmm := hmE hc
            simp only [D.frz, frzL]
            rw [hc]
            exact congrArg (fun x => D.tup [x, D.v (.int .i64 0), D.v (.int .i64 (-1))]) (by rw [← hmm, ← frz_agg]; exact mB_frz _ _ _ [] _ _ _)
          · have e1 : ((endX l (decM l).2).2.1 != 0) = true := bne_iff_ne.2 hc
            rw [if_neg hc, if_neg hc]
            (simp (disch := first | decide | omega | (simp only [nx]; first | done | omega)) only [go_sem, q2, q5, q6, e1, hzz]; (repeat with_reducible refine aI ?_))
            rw [mB_z]
            refine ⟨?_, hsub _⟩
            simp only [D.frz, frzL]
            exact congrArg (fun x => D.tup [x, D.v (.int .i64 _), D.v (.int .i64 _)]) (by rw [← frz_agg]; exact mB_frz 0 false zF [] [] .full .full)
  have g3 : (((byV l x0).toNat : Int) == 1) = false := beq_eq_false_iff_ne.2 fun h => h1 (UInt8.toNat_inj.1 (by show (byV l x0).toNat = 1; omega))
  have k2_ : (byV l x0).toNat ≠ 2 := fun h => h2 (UInt8.toNat_inj.1 h)
  have k3_ : (byV l x0).toNat ≠ 3 := fun h => h3 (UInt8.toNat_inj.1 h)
  have k1_ : (byV l x0).toNat ≠ 1 := fun h => h1 (UInt8.toNat_inj.1 h)
  have f1 : (((byV l x0).toNat : Int) != 1) = true := bne_iff_ne.2 (by omega)
  have hde : decM l = (⟨((byV l x0).toNat : Int), false, zF, [], []⟩, nxt (byN l x0) (.error 5)) := by rw [decM, if_neg h1, if_neg h2, if_neg h3]
  obtain ⟨kv, hkv⟩ : ∃ kv : Nat, kv = (byV l x0).toNat := ⟨_, rfl⟩
  rw [← hkv] at g3 k1_ k2_ k3_ f1 hde wk b3 hT3
  have hfail : DCalls Tryz.prog 29 [.loc q 0, .v (.int .i64 5)] T3 fun d T => d = undefD ∧ T.ob q = some (qB own l (nxt (byN l x0) (.error 5))) ∧ RFr q T3 T := fail_q 5 r3
  by_cases k0 : kv = 0
  · have g1 : decide ((kv : Int) < 1) = true := decide_eq_true (by omega)
    (simp (disch := first | decide | omega | (simp only [nx]; first | done | omega)) only [go_sem, bD_eq, ← hkv, cv_u8i64, wk]; (repeat with_reducible refine aI ?_))
    rw [mB_z, add_setq, ← hT3, ← hmb]
    clear hT3
    (simp (disch := first | decide | omega | (simp only [nx]; first | done | omega)) only [go_sem, b3, g1, g3]; (repeat with_reducible refine aI ?_))
    refine hfail.wf.mono ?_
    rintro _ T4 ⟨⟨rfl, r4, F4⟩, hW4⟩
    have b4 := F4.ob mb _ (by omega) b3
    have n4 := F4.next
    (simp (disch := first | decide | omega | (simp only [nx]; first | done | omega)) only [go_sem, b4, g3]; (repeat with_reducible refine aI ?_))
    have hbr : (nxt (byN l x0) (.error 5)).2.1 ≠ 0 := nxt_er _ _ (by decide)
    have hlx := er_le (c := 5) hlb
    have hcount := rcount_q (b := 8) r4 hlx hl (by omega)
    rw [cnt_er hbr] at hcount
    refine hcount.wf.mono ?_
    rintro _ T8 ⟨⟨rfl, r8, F8⟩, hW8⟩
    have n8 := F8.next
    have b8 := F8.ob mb _ (by omega) b4
    have c1 : (((0 : Nat) : Int) == 0) = true := rfl
    have c1' : ((0 : Int) == 0) = true := rfl
    (simp (disch := first | decide | omega | (simp only [nx]; first | done | omega)) only [go_sem, b8, c1, c1', f1]; (repeat with_reducible refine aI ?_))
    refine (fail_q 2 r8).wf.mono ?_
    rintro _ T9 ⟨⟨rfl, r9, F9⟩, hW9⟩
    have n9 := F9.next
    have b9 := F9.ob mb _ (by omega) b8
    rw [nuE_no hbr] at r9
    have G9 := (((FrM.refl q mb T3).rfr F4).rfr F8).rfr F9
    (simp (disch := first | decide | omega | (simp only [nx]; first | done | omega)) only [go_sem]; (repeat with_reducible refine aI ?_))
    refine dloop_up (fun t => List.contains [11, 12, 13, 66, 67, 68, 69, 70, 71, 72, 73, 74, 75, 76, 77, 78, 79, 80, 81, 82, 83, 84, 85, 86, 87, 88, 89, 90, 91, 92, 93, 94, 95, 96, 97, 98, 99, 100, 101, 102, 103, 104, 105, 106, 107, 108, 109, 110, 111, 112, 113, 114, 115, 116] t) (by kernel_rfl) (by exact hW9) 0 (fun i g T => i ≤ 0 ∧ g 11 = .v (.int .i64 ((i : Nat) : Int)) ∧ T.ob mb = some (.box 28 (mB (kv : Int) false zF (.sl .full []) (.sl .full []))) ∧ T.ob q = some (qB own l (nxt (byN l x0) (.error 5))) ∧ FrM q mb T3 T)
      ⟨by omega, by (first | (simp (disch := first | decide | omega | (simp only [nx]; first | done | omega)) only [go_sem]; first | done | rfl) | rfl), b9, r9, G9⟩ ?_
    rintro i g T hT hg ⟨le, q11, bT, rT, G⟩
    (have q2 := hg 2 rfl; have q3 := hg 3 rfl; have q4 := hg 4 rfl; have q5 := hg 5 rfl; have q6 := hg 6 rfl; have q10 := hg 10 rfl; simp (disch := first | decide | omega | (simp only [nx]; first | done | omega)) only [go_sem] at q2 q3 q4 q5 q6 q10; clear hg)
    obtain rfl : i = 0 := by omega
    have nG := G.next
    have rE : T.ob q = some (qB own l (decM l).2) := by rw [hde]; exact rT
    have hmE : (endX l (decM l).2).2.1 = 0 → (⟨(kv : Int), false, zF, [], []⟩ : DMs) = (decM l).1 := fun h => by rw [hde]
    have d1 : decide (((0 : Nat) : Int) < ((0 : Nat) : Int)) = false := by decide
    have d1' : decide ((0 : Int) < 0) = false := by decide
    (simp (disch := first | decide | omega | (simp only [nx]; first | done | omega)) only [go_sem, q5, q6, q10, q11, d1, d1']; (repeat with_reducible refine aI ?_))
    refine (end_q rE (by rw [show (decM l).2 = (decM l).2 from rfl]; exact decM_le l)).mono ?_
    rintro _ _ ⟨rfl, hTe⟩
    rw [hTe]
    clear hTe
    rw [endX_1, endX_2, show (decM l).2 = (decM l).2 from rfl]
    have hsub : ∀ cs, S.Sub (T.set S.next (.box 28 cs)) := fun cs => ⟨by show S.next ≤ T.next; have := G.next; omega, fun j o e => by have := hS.lt e; rw [set_ne (by omega)]; exact G.ob j o (by omega) (by omega) (kk3 j o e)⟩
    have hzz : T.ob S.next = some (.box 28 (mB 0 false zF (.sl .full []) (.sl .full []))) := G.ob S.next _ (by omega) (by omega) z3
    unfold refDec
    by_cases hc : (endX l (decM l).2).2.1 = 0
    · have e1 : ((endX l (decM l).2).2.1 != 0) = false := by rw [hc]; rfl
      rw [if_pos hc, if_pos hc]
      (simp (disch := first | decide | omega | (simp only [nx]; first | done | omega)) only [go_sem, q2, q5, q6, e1, bT, hzz]; (repeat with_reducible refine aI ?_))
      refine ⟨?_, hsub _⟩
      have hmm := hmE hc
      simp only [D.frz, frzL]
      rw [hc]
      exact congrArg (fun x => D.tup [x, D.v (.int .i64 0), D.v (.int .i64 (-1))]) (by rw [← hmm, ← frz_agg]; exact mB_frz _ _ _ [] [] _ _)
    · have e1 : ((endX l (decM l).2).2.1 != 0) = true := bne_iff_ne.2 hc
      rw [if_neg hc, if_neg hc]
      (simp (disch := first | decide | omega | (simp only [nx]; first | done | omega)) only [go_sem, q2, q5, q6, e1, hzz]; (repeat with_reducible refine aI ?_))
      rw [mB_z]
      refine ⟨?_, hsub _⟩
      simp only [D.frz, frzL]
      exact congrArg (fun x => D.tup [x, D.v (.int .i64 _), D.v (.int .i64 _)]) (by rw [← frz_agg]; exact mB_frz 0 false zF [] [] .full .full)
  · have g1 : decide ((kv : Int) < 1) = false := decide_eq_false (by omega)
    have g2 : decide ((3 : Int) < (kv : Int)) = true := decide_eq_true (by omega)
    (simp (disch := first | decide | omega | (simp only [nx]; first | done | omega)) only [go_sem, bD_eq, ← hkv, cv_u8i64, wk]; (repeat with_reducible refine aI ?_))
    rw [mB_z, add_setq, ← hT3, ← hmb]
    clear hT3
    (simp (disch := first | decide | omega | (simp only [nx]; first | done | omega)) only [go_sem, b3, g1, g2, g3]; (repeat with_reducible refine aI ?_))
    refine hfail.wf.mono ?_
    rintro _ T4 ⟨⟨rfl, r4, F4⟩, hW4⟩
    have b4 := F4.ob mb _ (by omega) b3
    have n4 := F4.next
    (simp (disch := first | decide | omega | (simp only [nx]; first | done | omega)) only [go_sem, b4, g3]; (repeat with_reducible refine aI ?_))
    have hbr : (nxt (byN l x0) (.error 5)).2.1 ≠ 0 := nxt_er _ _ (by decide)
    have hlx := er_le (c := 5) hlb
    have hcount := rcount_q (b := 8) r4 hlx hl (by omega)
    rw [cnt_er hbr] at hcount
    refine hcount.wf.mono ?_
    rintro _ T8 ⟨⟨rfl, r8, F8⟩, hW8⟩
    have n8 := F8.next
    have b8 := F8.ob mb _ (by omega) b4
    have c1 : (((0 : Nat) : Int) == 0) = true := rfl
    have c1' : ((0 : Int) == 0) = true := rfl
    (simp (disch := first | decide | omega | (simp only [nx]; first | done | omega)) only [go_sem, b8, c1, c1', f1]; (repeat with_reducible refine aI ?_))
    refine (fail_q 2 r8).wf.mono ?_
    rintro _ T9 ⟨⟨rfl, r9, F9⟩, hW9⟩
    have n9 := F9.next
    have b9 := F9.ob mb _ (by omega) b8
    rw [nuE_no hbr] at r9
    have G9 := (((FrM.refl q mb T3).rfr F4).rfr F8).rfr F9
    (simp (disch := first | decide | omega | (simp only [nx]; first | done | omega)) only [go_sem]; (repeat with_reducible refine aI ?_))
    refine dloop_up (fun t => List.contains [11, 12, 13, 66, 67, 68, 69, 70, 71, 72, 73, 74, 75, 76, 77, 78, 79, 80, 81, 82, 83, 84, 85, 86, 87, 88, 89, 90, 91, 92, 93, 94, 95, 96, 97, 98, 99, 100, 101, 102, 103, 104, 105, 106, 107, 108, 109, 110, 111, 112, 113, 114, 115, 116] t) (by kernel_rfl) (by exact hW9) 0 (fun i g T => i ≤ 0 ∧ g 11 = .v (.int .i64 ((i : Nat) : Int)) ∧ T.ob mb = some (.box 28 (mB (kv : Int) false zF (.sl .full []) (.sl .full []))) ∧ T.ob q = some (qB own l (nxt (byN l x0) (.error 5))) ∧ FrM q mb T3 T)
      ⟨by omega, by (first | (simp (disch := first | decide | omega | (simp only [nx]; first | done | omega)) only [go_sem]; first | done | rfl) | rfl), b9, r9, G9⟩ ?_
    rintro i g T hT hg ⟨le, q11, bT, rT, G⟩
    (have q2 := hg 2 rfl; have q3 := hg 3 rfl; have q4 := hg 4 rfl; have q5 := hg 5 rfl; have q6 := hg 6 rfl; have q10 := hg 10 rfl; simp (disch := first | decide | omega | (simp only [nx]; first | done | omega)) only [go_sem] at q2 q3 q4 q5 q6 q10; clear hg)
    obtain rfl : i = 0 := by omega
    have nG := G.next
    have rE : T.ob q = some (qB own l (decM l).2) := by rw [hde]; exact rT
    have hmE : (endX l (decM l).2).2.1 = 0 → (⟨(kv : Int), false, zF, [], []⟩ : DMs) = (decM l).1 := fun h => by rw [hde]
    have d1 : decide (((0 : Nat) : Int) < ((0 : Nat) : Int)) = false := by decide
    have d1' : decide ((0 : Int) < 0) = false := by decide
    (simp (disch := first | decide | omega | (simp only [nx]; first | done | omega)) only [go_sem, q5, q6, q10, q11, d1, d1']; (repeat with_reducible refine aI ?_))
    refine (end_q rE (by rw [show (decM l).2 = (decM l).2 from rfl]; exact decM_le l)).mono ?_
    rintro _ _ ⟨rfl, hTe⟩
    rw [hTe]
    clear hTe
    rw [endX_1, endX_2, show (decM l).2 = (decM l).2 from rfl]
    have hsub : ∀ cs, S.Sub (T.set S.next (.box 28 cs)) := fun cs => ⟨by show S.next ≤ T.next; have := G.next; omega, fun j o e => by have := hS.lt e; rw [set_ne (by omega)]; exact G.ob j o (by omega) (by omega) (kk3 j o e)⟩
    have hzz : T.ob S.next = some (.box 28 (mB 0 false zF (.sl .full []) (.sl .full []))) := G.ob S.next _ (by omega) (by omega) z3
    unfold refDec
    by_cases hc : (endX l (decM l).2).2.1 = 0
    · have e1 : ((endX l (decM l).2).2.1 != 0) = false := by rw [hc]; rfl
      rw [if_pos hc, if_pos hc]
      (simp (disch := first | decide | omega | (simp only [nx]; first | done | omega)) only [go_sem, q2, q5, q6, e1, bT, hzz]; (repeat with_reducible refine aI ?_))
      refine ⟨?_, hsub _⟩
      have hmm := hmE hc
      simp only [D.frz, frzL]
      rw [hc]
      exact congrArg (fun x => D.tup [x, D.v (.int .i64 0), D.v (.int .i64 (-1))]) (by rw [← hmm, ← frz_agg]; exact mB_frz _ _ _ [] [] _ _)
    · have e1 : ((endX l (decM l).2).2.1 != 0) = true := bne_iff_ne.2 hc
      rw [if_neg hc, if_neg hc]
      (simp (disch := first | decide | omega | (simp only [nx]; first | done | omega)) only [go_sem, q2, q5, q6, e1, hzz]; (repeat with_reducible refine aI ?_))
      rw [mB_z]
      refine ⟨?_, hsub _⟩
      simp only [D.frz, frzL]
      exact congrArg (fun x => D.tup [x, D.v (.int .i64 _), D.v (.int .i64 _)]) (by rw [← frz_agg]; exact mB_frz 0 false zF [] [] .full .full)
end
end Go.Proofs.YtonncfminojejaaGreatDoor

namespace Go.Proofs.YtonncfminojejaaGreatDoor
open Go.RowKit
section
set_option maxRecDepth 200000
set_option maxHeartbeats 16000000
theorem decodes_d (own : Own) (l : List UInt8) (hlb : l.length ≤ 140737488355328) : DPure Tryz.prog 3 [.sl own (l.map bD)] (.v (.bool true)) := by
  refine dpure_of_dwp mixed Tryz.func3 rfl (fun _ _ => by kernel_rfl) (rs := [.tmp 2]) rfl (by kernel_rfl) trivial (fun S hS => ?_)
  by_cases hl3 : 3000 < l.length
  · have b1 : decide ((3000 : Int) < (l.length : Int)) = true := decide_eq_true (by omega)
    (simp (disch := first | decide | omega | (simp only [nx]; first | done | omega)) only [go_sem, b1]; (repeat with_reducible refine aI ?_))
    refine DCalls.of_pure awake25_d ?_
    (simp (disch := first | decide | omega | (simp only [nx]; first | done | omega)) only [go_sem]; (repeat with_reducible refine aI ?_))
    refine ⟨?_, (by (repeat' first | assumption | exact St.Sub.refl _ | exact RowOk.sub (by assumption) (by assumption) | refine St.Sub.trans ?_ (RowOk.sub (by assumption) (by assumption)) | refine St.Sub.add ?_ ?_ _ | refine St.Sub.set ?_ ?_ ?_ _ | refine St.Sub.keep ?_ ?_ | refine St.WF.leave ?_ _ | refine St.WF.add ?_ _ | refine St.WF.set ?_ ?_ _ | refine St.WF.grow ?_ _ _ _ | refine St.WF.keep ?_ ?_ | (first | omega | (simp only [RowOk.lo, nx]; first | done | omega))))⟩
    rfl
  have b1 : decide ((3000 : Int) < (l.length : Int)) = false := decide_eq_false (by omega)
  (simp (disch := first | decide | omega | (simp only [nx]; first | done | omega)) only [go_sem, b1]; (repeat with_reducible refine aI ?_))
  refine (decode25_x own l (by omega)).wf.mono ?_
  rintro _ T ⟨⟨k, e, rfl, hk, he, hn, hob⟩, hT⟩
  have hrd := rdecode25_d own l (by omega)
  unfold refDec at hrd
  have hback := dec_back (l := l)
  generalize (endX l (decM l).2).2.1 = c at *
  generalize (endX l (decM l).2).2.2 = p at *
  obtain ⟨m, hm⟩ : ∃ m, m = if c = 0 then (decM l).1 else zM := ⟨_, rfl⟩
  rw [← hm] at hrd ⊢
  have hsz : m.ids.length ≤ 1000000 ∧ m.es.length ≤ 1000000 := by
    rw [hm]
    split
    · rename_i h
      obtain ⟨h1, h2, _⟩ := right_es (hback h).1
      exact ⟨by omega, by omega⟩
    · exact ⟨by simp [zM], by simp [zM]⟩
  (simp (disch := first | decide | omega | (simp only [nx]; first | done | omega)) only [go_sem]; (repeat with_reducible refine aI ?_))
  refine DCalls.of_pure hrd ?_
  (simp (disch := first | decide | omega | (simp only [nx]; first | done | omega)) only [go_sem]; (repeat with_reducible refine aI ?_))
  rw [mB_z, add_setq]
  obtain ⟨T2, hT2⟩ : ∃ T2 : St, T2 = ((T.add (.box 28 (msCs m))).add (.box 28 (mB 0 false zF (.sl .full []) (.sl .full [])))).set (T.next + 1) (.box 28 (msCs m)) := ⟨_, rfl⟩
  have hk2 : ∀ j o, T.ob j = some o → T2.ob j = some o := fun j o e => by have := hT.lt e; rw [hT2, set_ne (by omega), add_ne (by show j < T.next + 1; omega), add_ne this, e]
  have m0 : T2.ob T.next = some (.box 28 (msCs m)) := by rw [hT2, set_ne (by omega), add_ne (by show T.next < T.next + 1; omega)]; exact add_eq
  have m1 : T2.ob (T.next + 1) = some (.box 28 (msCs m)) := by rw [hT2]; exact set_eq
  have n2 : T2.next = T.next + 2 := by rw [hT2]; rfl
  have hsub : S.Sub T2 := ⟨by omega, fun j o e => hk2 j o (hob j o e)⟩
  have hW2 : T2.WF := by rw [hT2]; exact ((hT.add _).add _).set (by show T.next + 1 < T.next + 1 + 1; omega) _
  rw [← hT2]
  by_cases hc : c = 0
  · subst hc
    have he2 : ErrAt k 0 (-1) T2 e := by
      rcases he with ⟨_, h⟩ | ⟨h, _⟩
      · exact .inl ⟨rfl, h⟩
      · exact absurd rfl h
    rw [if_pos rfl] at hm ⊢
    rw [hm] at m0 m1 hsz
    obtain ⟨hr, hbt⟩ := hback rfl
    refine (told_x he2).go ?_
    (simp (disch := first | decide | omega | (simp only [nx]; first | done | omega)) only [go_sem, m0, m1]; (repeat with_reducible refine aI ?_))
    refine DCalls.of_pure (same25_d (decM l).1 (decM l).1 hsz.1 hsz.2) ?_
    have s1 : decide ((decM l).1 = (decM l).1) = true := decide_eq_true rfl
    have c0 : ((0 : Int) != 0) = false := by decide
    (simp (disch := first | decide | omega | (simp only [nx]; first | done | omega)) only [go_sem, m0, m1, s1, c0]; (repeat with_reducible refine aI ?_))
    refine DCalls.of_pure (rright25_d (decM l).1 hsz.1 hsz.2) ?_
    rw [hr]
    (simp (disch := first | decide | omega | (simp only [nx]; first | done | omega)) only [go_sem, m0]; (repeat with_reducible refine aI ?_))
    refine DCalls.of_pure (rbytes25_d (decM l).1 hr) ?_
    (simp (disch := first | decide | omega | (simp only [nx]; first | done | omega)) only [go_sem]; (repeat with_reducible refine aI ?_))
    rw [hbt]
    refine DCalls.of_pure (bytesEq_d .no own l l (by omega) (by omega)) ?_
    have s2 : decide (l = l) = true := decide_eq_true rfl
    (simp (disch := first | decide | omega | (simp only [nx]; first | done | omega)) only [go_sem, s2]; (repeat with_reducible refine aI ?_))
    refine DCalls.of_pure awake25_d ?_
    (simp (disch := first | decide | omega | (simp only [nx]; first | done | omega)) only [go_sem]; (repeat with_reducible refine aI ?_))
    exact ⟨rfl, hsub⟩
  · have he2 : ErrAt k c p T2 e := he.keep fun j o _ h => hk2 j o h
    rw [if_neg hc]
    refine (told_x he2).go ?_
    (simp (disch := first | decide | omega | (simp only [nx]; first | done | omega)) only [go_sem, m0, m1]; (repeat with_reducible refine aI ?_))
    refine DCalls.of_pure (same25_d m m hsz.1 hsz.2) ?_
    have s1 : decide (m = m) = true := decide_eq_true rfl
    have c0 : (c != 0) = true := bne_iff_ne.2 hc
    (simp (disch := first | decide | omega | (simp only [nx]; first | done | omega)) only [go_sem, m0, m1, s1, c0]; (repeat with_reducible refine aI ?_))
    refine DCalls.of_pure awake25_d ?_
    (simp (disch := first | decide | omega | (simp only [nx]; first | done | omega)) only [go_sem]; (repeat with_reducible refine aI ?_))
    exact ⟨rfl, hsub⟩
theorem encodes_d (a b : DMs) (ha0 : a.es.length ≤ 140737488355328) (ha : ∀ x ∈ a.es, x.length ≤ 140737488355328) (hb0 : b.es.length ≤ 140737488355328) (hb : ∀ x ∈ b.es, x.length ≤ 140737488355328) : DPure Tryz.prog 4 [encMs a, encMs b] (.v (.bool true)) := by
  refine dpure_of_dwp mixed Tryz.func4 rfl (fun _ _ => by kernel_rfl) (rs := [.tmp 4]) rfl (by kernel_rfl) trivial (fun S hS => ?_)
  (simp (disch := first | decide | omega | (simp only [nx]; first | done | omega)) only [go_sem]; (repeat with_reducible refine aI ?_))
  refine DCalls.of_pure (great25_d a ha0 ha) ?_
  cases hga : greatM a with
  | true =>
    (simp (disch := first | decide | omega | (simp only [nx]; first | done | omega)) only [go_sem]; (repeat with_reducible refine aI ?_))
    refine DCalls.of_pure awake25_d ?_
    (simp (disch := first | decide | omega | (simp only [nx]; first | done | omega)) only [go_sem]; (repeat with_reducible refine aI ?_))
    refine ⟨?_, (by (repeat' first | assumption | exact St.Sub.refl _ | exact RowOk.sub (by assumption) (by assumption) | refine St.Sub.trans ?_ (RowOk.sub (by assumption) (by assumption)) | refine St.Sub.add ?_ ?_ _ | refine St.Sub.set ?_ ?_ ?_ _ | refine St.Sub.keep ?_ ?_ | refine St.WF.leave ?_ _ | refine St.WF.add ?_ _ | refine St.WF.set ?_ ?_ _ | refine St.WF.grow ?_ _ _ _ | refine St.WF.keep ?_ ?_ | (first | omega | (simp only [RowOk.lo, nx]; first | done | omega))))⟩
    rfl
  | false =>
    (simp (disch := first | decide | omega | (simp only [nx]; first | done | omega)) only [go_sem]; (repeat with_reducible refine aI ?_))
    refine DCalls.of_pure (great25_d b hb0 hb) ?_
    cases hgb : greatM b with
    | true =>
      (simp (disch := first | decide | omega | (simp only [nx]; first | done | omega)) only [go_sem]; (repeat with_reducible refine aI ?_))
      refine DCalls.of_pure awake25_d ?_
      (simp (disch := first | decide | omega | (simp only [nx]; first | done | omega)) only [go_sem]; (repeat with_reducible refine aI ?_))
      refine ⟨?_, (by (repeat' first | assumption | exact St.Sub.refl _ | exact RowOk.sub (by assumption) (by assumption) | refine St.Sub.trans ?_ (RowOk.sub (by assumption) (by assumption)) | refine St.Sub.add ?_ ?_ _ | refine St.Sub.set ?_ ?_ ?_ _ | refine St.Sub.keep ?_ ?_ | refine St.WF.leave ?_ _ | refine St.WF.add ?_ _ | refine St.WF.set ?_ ?_ _ | refine St.WF.grow ?_ _ _ _ | refine St.WF.keep ?_ ?_ | (first | omega | (simp only [RowOk.lo, nx]; first | done | omega))))⟩
      rfl
    | false =>
      obtain ⟨a1, a2, a3, a4⟩ := great_no hga
      obtain ⟨b1, b2, b3, b4⟩ := great_no hgb
      (simp (disch := first | decide | omega | (simp only [nx]; first | done | omega)) only [go_sem]; (repeat with_reducible refine aI ?_))
      refine DCalls.of_pure (encode25_d a (by omega) (by omega)) ?_
      have s1 : decide (a = a) = true := decide_eq_true rfl
      have q1 : (rightM a != rightM a) = false := by simp
      have q2 : (decide (a = b) != decide (a = b)) = false := by simp
      unfold encRes25
      by_cases hra : rightM a = true
      · rw [if_pos hra]
        (simp (disch := first | decide | omega | (simp only [nx]; first | done | omega)) only [go_sem]; (repeat with_reducible refine aI ?_))
        refine ddraw_mk 20 (by kernel_rfl) ?_
        (simp (disch := first | decide | omega | (simp only [nx]; first | done | omega)) only [go_sem]; (repeat with_reducible refine aI ?_))
        refine dqgo_mk (right25_d a (by omega) (by omega)) ?_
        (simp (disch := first | decide | omega | (simp only [nx]; first | done | omega)) only [go_sem]; (repeat with_reducible refine aI ?_))
        refine dqgo_mk (rright25_d a (by omega) (by omega)) ?_
        (simp (disch := first | decide | omega | (simp only [nx]; first | done | omega)) only [go_sem, q1, bin_bneW]; (repeat with_reducible refine aI ?_))
        refine dqgo_mk (msame_d a b (by omega) (by omega) (fun x hx => by have := a2 x hx; omega) (by omega) (by omega) (fun x hx => by have := b2 x hx; omega)) ?_
        (simp (disch := first | decide | omega | (simp only [nx]; first | done | omega)) only [go_sem]; (repeat with_reducible refine aI ?_))
        refine dqgo_mk (same25_d a b (by omega) (by omega)) ?_
        (simp (disch := first | decide | omega | (simp only [nx]; first | done | omega)) only [go_sem, q2, bin_bneW]; (repeat with_reducible refine aI ?_))
        refine dqgo_mk (msame_d a a (by omega) (by omega) (fun x hx => by have := a2 x hx; omega) (by omega) (by omega) (fun x hx => by have := a2 x hx; omega)) ?_
        (simp (disch := first | decide | omega | (simp only [nx]; first | done | omega)) only [go_sem, s1]; (repeat with_reducible refine aI ?_))
        refine DCalls.of_pure (rright25_d a (by omega) (by omega)) ?_
        rw [hra]
        (simp (disch := first | decide | omega | (simp only [nx]; first | done | omega)) only [go_sem]; (repeat with_reducible refine aI ?_))
        have hbl := bytes_len hra
        refine (decode25_x .no (bytesM a) (by omega)).wf.mono ?_
        rintro _ T ⟨⟨k, e, rfl, hk, he, hn, hob⟩, hT⟩
        obtain ⟨hd1, hd2⟩ := dec_fwd hra
        rw [if_pos hd2, hd1]
        have hen : e = .v .nilIface := by
          rcases he with ⟨_, h⟩ | ⟨h, _⟩
          · exact h
          · exact absurd hd2 h
        subst hen
        have t0 : T.ob S.next = some (.box 28 (msCs a)) := hob _ _ (by rw [add_ne (by show S.next < S.next + 1; omega)]; exact add_eq)
        have hsub0 : S.Sub T := ⟨Nat.le_trans (Nat.le_trans (Nat.le_succ _) (Nat.le_succ _)) hn, fun j o e => hob _ _ (by have := hS.lt e; rw [add_ne (by show j < S.next + 1; omega), add_ne this]; exact e)⟩
        (simp (disch := first | decide | omega | (simp only [nx]; first | done | omega)) only [go_sem]; (repeat with_reducible refine aI ?_))
        rw [mB_z, add_setq]
        obtain ⟨T2, hT2⟩ : ∃ T2 : St, T2 = T.add (.box 28 (msCs a)) := ⟨_, rfl⟩
        have m0 : T2.ob S.next = some (.box 28 (msCs a)) := by have := hT.lt t0; rw [hT2, add_ne this]; exact t0
        have m1 : T2.ob T.next = some (.box 28 (msCs a)) := by rw [hT2]; exact add_eq
        have hsub : S.Sub T2 := by rw [hT2]; exact hsub0.add hS _
        rw [← hT2]
        (simp (disch := first | decide | omega | (simp only [nx]; first | done | omega)) only [go_sem, m0]; (repeat with_reducible refine aI ?_))
        refine DCalls.of_pure (rbytes25_d a hra) ?_
        (simp (disch := first | decide | omega | (simp only [nx]; first | done | omega)) only [go_sem]; (repeat with_reducible refine aI ?_))
        refine DCalls.of_pure (bytesEq_d .no .no (bytesM a) (bytesM a) (by omega) (by omega)) ?_
        have s2 : decide (bytesM a = bytesM a) = true := decide_eq_true rfl
        (simp (disch := first | decide | omega | (simp only [nx]; first | done | omega)) only [go_sem, s2, m0, m1]; (repeat with_reducible refine aI ?_))
        refine DCalls.of_pure (same25_d a a (by omega) (by omega)) ?_
        (simp (disch := first | decide | omega | (simp only [nx]; first | done | omega)) only [go_sem, s1]; (repeat with_reducible refine aI ?_))
        refine DCalls.of_pure awake25_d ?_
        (simp (disch := first | decide | omega | (simp only [nx]; first | done | omega)) only [go_sem]; (repeat with_reducible refine aI ?_))
        exact ⟨rfl, hsub⟩
      · rw [if_neg hra]
        (simp (disch := first | decide | omega | (simp only [nx]; first | done | omega)) only [go_sem]; (repeat with_reducible refine aI ?_))
        refine ddraw_mk 20 (by kernel_rfl) ?_
        (simp (disch := first | decide | omega | (simp only [nx]; first | done | omega)) only [go_sem]; (repeat with_reducible refine aI ?_))
        refine dqgo_mk (right25_d a (by omega) (by omega)) ?_
        (simp (disch := first | decide | omega | (simp only [nx]; first | done | omega)) only [go_sem]; (repeat with_reducible refine aI ?_))
        refine dqgo_mk (rright25_d a (by omega) (by omega)) ?_
        (simp (disch := first | decide | omega | (simp only [nx]; first | done | omega)) only [go_sem, q1, bin_bneW]; (repeat with_reducible refine aI ?_))
        refine dqgo_mk (msame_d a b (by omega) (by omega) (fun x hx => by have := a2 x hx; omega) (by omega) (by omega) (fun x hx => by have := b2 x hx; omega)) ?_
        (simp (disch := first | decide | omega | (simp only [nx]; first | done | omega)) only [go_sem]; (repeat with_reducible refine aI ?_))
        refine dqgo_mk (same25_d a b (by omega) (by omega)) ?_
        (simp (disch := first | decide | omega | (simp only [nx]; first | done | omega)) only [go_sem, q2, bin_bneW]; (repeat with_reducible refine aI ?_))
        refine dqgo_mk (msame_d a a (by omega) (by omega) (fun x hx => by have := a2 x hx; omega) (by omega) (by omega) (fun x hx => by have := a2 x hx; omega)) ?_
        (simp (disch := first | decide | omega | (simp only [nx]; first | done | omega)) only [go_sem, s1]; (repeat with_reducible refine aI ?_))
        refine DCalls.of_pure (rright25_d a (by omega) (by omega)) ?_
        rw [Bool.not_eq_true] at hra
        rw [hra]
        (simp (disch := first | decide | omega | (simp only [nx]; first | done | omega)) only [go_sem]; (repeat with_reducible refine aI ?_))
        refine DCalls.of_pure (code0_er 1) ?_
        (simp (disch := first | decide | omega | (simp only [nx]; first | done | omega)) only [go_sem]; (repeat with_reducible refine aI ?_))
        refine DCalls.of_pure awake25_d ?_
        (simp (disch := first | decide | omega | (simp only [nx]; first | done | omega)) only [go_sem]; (repeat with_reducible refine aI ?_))
        refine ⟨?_, (by (repeat' first | assumption | exact St.Sub.refl _ | exact RowOk.sub (by assumption) (by assumption) | refine St.Sub.trans ?_ (RowOk.sub (by assumption) (by assumption)) | refine St.Sub.add ?_ ?_ _ | refine St.Sub.set ?_ ?_ ?_ _ | refine St.Sub.keep ?_ ?_ | refine St.WF.leave ?_ _ | refine St.WF.add ?_ _ | refine St.WF.set ?_ ?_ _ | refine St.WF.grow ?_ _ _ _ | refine St.WF.keep ?_ ?_ | (first | omega | (simp only [RowOk.lo, nx]; first | done | omega))))⟩
        rfl
end
end Go.Proofs.YtonncfminojejaaGreatDoor

namespace Go.Proofs.YtonncfminojejaaGreatDoor
open Go.ChangeShapes Go.WideShapes Go.ChangeAt Go.RowKit
set_option maxRecDepth 100000 in
theorem messageEncodes_lifted (os : Os) (started : os.Started) (H : Type) (enc : TypeId × Value → H) :
    ReturnsInHanded {} Tryz.checked os 4 .any (fun w args => (Rows.messageEncodesSpec.pre enc Tryz.prog Tryz.f4 [] false w args ∧ laidMetH Tryz.prog doorLaid w) ∧ sizedMet enc Tryz.prog Tryz.f4 (OpenSpec.ofChange Rows.messageEncodesSpec) false w args)
      (Rows.messageEncodesSpec.post enc Tryz.prog Tryz.f4 false true false false) := by
  refine returnsInHanded_of_change_and (C := Tryz.checked) (X := fun w _ => laidMetH Tryz.prog doorLaid w) (fun _ _ _ hh h => h.of_heap hh) door_own started (by kernel_rfl) Tryz.func4
    (ChangeSpec.witness_at (enc := enc) (C := Tryz.checked) (os := os) (X := fun w _ => laidMetH Tryz.prog doorLaid w) false (laidWorld os) #[.agg (.int .i64 0 :: .bool false :: (zF.1.map bV ++ [.slice none 0 0, .slice none 0 0])).toArray, .agg (.int .i64 0 :: .bool false :: (zF.1.map bV ++ [.slice none 0 0, .slice none 0 0])).toArray] 8 rfl (by kernel_rfl) (by kernel_rfl) (by kernel_rfl) (by kernel_rfl) (by kernel_rfl) (laidWorld_met os _)) ?_
  intro W base args ds gs before hval0 hW hcnd hsz0 hL _
  have hG := glob_of_laid hL
  have hval : ∀ (j : Nat) t v, Tryz.f4.params[j]? = some t → args[j]? = some v → Value.okWide Tryz.prog W .any base t v := hval0
  have hsz : (DataW.weightsEach Tryz.prog (Tryz.f4.params.toList ++ Rows.messageEncodesSpec.plain.varTypes Tryz.prog) (ds ++ gs)).all (· ≤ reachBytes) = true := hsz0
  have hW' := hW
  obtain ⟨p, q, hA0, hV, rfl, hfz, hnd⟩ := hW
  have hA : DataW.TrodAll enc Tryz.prog W 0 (fun _ => true) true Tryz.f4.params.toList args.toList ds p := hA0
  obtain ⟨rfl, rfl⟩ := trodVars_none hV
  rw [Tryz.params4] at hA hval hsz
  have hA1 := hA
  obtain ⟨v0, vs0, d0, ds0, p0, q0, hargs, rfl, rfl, h0, r0⟩ := trodAll_cons hA
  obtain ⟨v1, vs1, d1, ds1, p1, q1, rfl, rfl, rfl, h1, r1⟩ := trodAll_cons r0
  obtain ⟨rfl, rfl, rfl⟩ := trodAll_nil r1
  obtain rfl : args = #[v0, v1] := by cases args; simp_all
  have z0 : Sized Tryz.prog 28 d0 := sized_of_each (j := 0) hsz rfl rfl
  have k0 : Value.okWide Tryz.prog W .any base 28 v0 := hval 0 _ _ rfl rfl
  have z1 : Sized Tryz.prog 28 d1 := sized_of_each (j := 1) hsz rfl rfl
  have k1 : Value.okWide Tryz.prog W .any base 28 v1 := hval 1 _ _ rfl rfl
  clear hA0 hval0 hsz hsz0 hval
  have key : Calls Tryz.prog 4 #[v0, v1] W (Gives (.bool true) W) := by
    obtain ⟨a, as_, rfl, ⟨ha1, ha2⟩, ha⟩ := open_ms h0 z0 k0
    obtain ⟨b, bs_, rfl, ⟨hb1, hb2⟩, hb⟩ := open_ms h1 z1 k1
    exact door_gives (vs := [.agg as_.toArray, .agg bs_.toArray]) (encodes_d a b (by omega) (fun x hx => by have := ha2 x hx; omega) (by omega) (fun x hx => by have := hb2 x hx; omega)) (by simp only [RepL]; exact ⟨_, _, rfl, ha _ _ (door_fix _), _, _, rfl, hb _ _ (door_fix _), rfl⟩) (by intro _ _; kernel_rfl) hG
  refine key.mono fun e W' ⟨he, bel⟩ => ?_
  subst he
  exact ⟨_, rfl, _, _, _, [], _, [], hW', trodAll_mk1 (shut_bool Tryz.underlying4 _), trodAll_below door_laidOut bel (by kernel_rfl) hA1, rfl, bel.frame _, fun h => by cases h⟩

theorem messageEncodes_row : Rows.MessageEncodesSaid :=
  OpenClaim.holds_of_wide 4 Tryz.f4 rfl rfl rfl rfl rfl rfl rfl ⟨rfl, rfl, rfl, rfl, rfl⟩ rfl rfl rfl rfl rfl (by kernel_rfl) Tryz.func4 (by kernel_rfl)
    (of_decide_eq_true (by kernel_rfl)) (by unfold Func.isWrapper; first | (rw [if_pos (by decide +kernel)]; kernel_rfl) | (rw [if_neg (by decide +kernel)]; exact ⟨rfl, rfl⟩))
    (fun os started H enc _ => messageEncodes_lifted os started H enc)
theorem messageEncodes_holds : Rows.MessageEncodesCardSaid :=
  Claim7.holds_tied_plain_at .later [] [.handle] true Rows.messageEncodesCard.stood.harness true
    messageEncodes_row (fun _ h => by cases h) (by kernel_rfl) (fun _ h => by cases h) messageEncodes_row_tie rfl ⟨rfl, rfl⟩ (by kernel_rfl) rfl
    (fun f fn hf hfn => by
      obtain rfl : f = 4 := Option.some.inj ((show Tryz.prog.funcNamed "dioptre/dioptrelaw25.MessageEncodes" = some 4 by kernel_rfl).symm.trans hf) |>.symm
      obtain rfl : fn = Tryz.f4 := (Option.some.inj (Tryz.func4.symm.trans hfn)).symm
      exact ⟨by kernel_rfl, fun j t ht => by
        rw [Tryz.params4] at ht
        have ht' := List.mem_of_getElem? (Array.getElem?_toList ▸ ht)
        simp only [List.mem_cons, List.not_mem_nil, or_false] at ht'
        rcases ht' with rfl | rfl <;> exact (show Tryz.prog.wantsStandIn _ = false by kernel_rfl)⟩)
    (by kernel_rfl)
#print axioms messageEncodes_holds
end Go.Proofs.YtonncfminojejaaGreatDoor
