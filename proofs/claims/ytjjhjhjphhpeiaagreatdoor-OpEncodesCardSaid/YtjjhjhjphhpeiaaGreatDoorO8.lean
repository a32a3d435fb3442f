/- Texts of a proof, part 8. Conditions: none. -/
import Derived.Test.YtjjhjhjphhpeiaaGreatDoorO7
set_option linter.unusedVariables false
set_option linter.unusedSimpArgs false
namespace Go.Proofs.YtjjhjhjphhpeiaaGreatDoor
open Go.RowKit
theorem bD_eq (b : UInt8) : bD b = .v (.int .u8 (b.toNat : Int)) := rfl
theorem andNot80' : ∀ x : Fin 256, bits BinOp.andNot IntKind.u8 (x.val : Int) 128 = ((x.val % 128 : Nat) : Int) := by decide +kernel
theorem digit_put (m c k : Nat) (hm : m < 128 ^ k) (hk : k ≤ 9) (hk9 : k = 9 → c ≤ 1) (hc : c < 256) :
    bits BinOp.or IntKind.u64 (m : Int) (IntKind.u64.wrap (IntKind.u64.wrap (bits BinOp.andNot IntKind.u8 (c : Int) 128) * 2 ^ (7 * k))) = ((m + c % 128 * 128 ^ k : Nat) : Int) := by
  have h1 := andNot80' ⟨c, hc⟩
  simp only at h1
  have e2 : (2 : Nat) ^ (7 * k) = 128 ^ k := by rw [Nat.pow_mul]
  have hu : c % 128 * 128 ^ k < 18446744073709551616 ∧ 128 ^ k ≤ 9223372036854775808 := by
    have h3 : (128 : Nat) ^ k ≤ 128 ^ 9 := Nat.pow_le_pow_right (by omega) hk
    simp at h3
    refine ⟨?_, h3⟩
    by_cases h9 : k = 9
    · subst h9
      have := hk9 rfl
      have h4 : c % 128 * 128 ^ 9 ≤ 1 * 128 ^ 9 := Nat.mul_le_mul_right _ (by omega)
      simp at h4 ⊢
      omega
    · have h5 : (128 : Nat) ^ k ≤ 128 ^ 8 := Nat.pow_le_pow_right (by omega) (by omega)
      have h4 : c % 128 * 128 ^ k ≤ 127 * 128 ^ 8 := Nat.mul_le_mul (by omega) h5
      simp at h4
      omega
  rw [h1, wrap_u64 (c % 128) (by unfold IsU64; omega)]
  have e3 : ((c % 128 : Nat) : Int) * 2 ^ (7 * k) = ((c % 128 * 128 ^ k : Nat) : Int) := by rw [← e2]; push_cast; rfl
  rw [e3, wrap_u64 _ hu.1, bits_or_u64_nat _ _ (by omega) hu.1]
  congr 1
  rw [Nat.or_comm, ← e2, Nat.mul_comm, ← Nat.two_pow_add_eq_or_of_lt (by rw [e2]; exact hm)]
  omega
theorem bin_shl7 {P : Program} {t : TypeId} {x y : Operand} (a : Int) (k : Nat) (hk : k ≤ 9) : dbin P .shl t x y (.v (.int .u64 a)) (.v (.int .i64 ((7 * k : Nat) : Int))) = some (True, .v (.int .u64 (IntKind.u64.wrap (a * 2 ^ (7 * k))))) := by
  have h1 : ¬ ((7 * k : Nat) : Int) < 0 := by omega
  have h2 : min (7 * k) (IntKind.bits .u64) = 7 * k := by simp only [IntKind.bits]; omega
  have h3 : (((7 * k : Nat) : Int)).toNat = 7 * k := by omega
  simp only [dbin, eqGuard, binOp, Op.shift, h1, h3, h2, pureRun_bind, pureRun_pure, if_false]
  rfl
section
variable {P : Program} {f : Fm} {S : St}
theorem pfin_ret3 (t u v : Tmp) (S' : St) (d : D) : DQ.pfin P [.tmp t, .tmp u, .tmp v] S d .ret f S' = PFin S S' (.tup [f t, f u, f v]) d := by
  simp [DQ.pfin, dresL, dres, onVal, one]
theorem pfin_normal3 (t u v : Tmp) (S' : St) (d : D) : DQ.pfin P [.tmp t, .tmp u, .tmp v] S d .normal f S' = PFin S S' (.tup [f t, f u, f v]) d := by
  simp [DQ.pfin, dresL, dres, onVal, one]
end
attribute [go_sem] pfin_ret3 pfin_normal3
def accN (l : List UInt8) : Nat → Nat
  | 0 => 0
  | i + 1 => accN l i + (l.getD i 0).toNat % 128 * 128 ^ i
def numD : Option (Nat × Nat) → D
  | some (n, s) => .tup [.v (.int .u64 (n : Int)), .v (.int .i64 (s : Int)), .v (.int .i64 0)]
  | none => .tup [.v (.int .u64 0), .v (.int .i64 0), .v (.int .i64 2)]
theorem numD_closed (o : Option (Nat × Nat)) : (numD o).closed := by
  cases o <;> simp [numD, D.closed, D.all, allL]
theorem drop_cons' {α : Type} (l : List α) (k : Nat) (h : k < l.length) : l.drop k = l[k] :: l.drop (k + 1) := by rw [List.drop_eq_getElem_cons h]
set_option maxRecDepth 200000 in
set_option maxHeartbeats 8000000 in
theorem number_d (own : Own) (l : List UInt8) (hl : l.length ≤ 1099511627776) : DPure Tryz.prog 138 [.sl own (l.map bD)] (numD (numP l)) := by
  refine dpure_of_dwp mixed Tryz.func138 rfl (fun _ _ => by kernel_rfl) (rs := [.tmp 2, .tmp 3, .tmp 4]) rfl (by kernel_rfl) (numD_closed _) (fun S hS => ?_)
  (simp (disch := first | decide | omega | (simp only [nx]; first | done | omega)) only [go_sem]; (repeat with_reducible refine aI ?_))
  (refine dloop_st (fun t => List.contains [2, 3, 4, 5, 6, 7, 10, 11, 12, 13, 14, 15, 16, 17, 18, 19, 20, 21, 22, 23, 24, 25, 26, 27, 28, 29, 30, 31, 32, 33, 34, 35, 36, 37, 38, 39, 40, 41, 42, 43, 44] t) (by kernel_rfl) ?_ (l.length) (fun i f => i ≤ l.length ∧ f 5 = .v (.int .u64 (accN l i : Nat)) ∧ f 10 = .v (.int .i64 (i : Nat)) ∧ (numP l = numGo i (accN l i) (l.drop i)) ∧ (accN l i < 128 ^ i) ∧ (i ≤ 10) ∧ (i = 10 → IsU64 (accN l i))) ?_ ?_; (exact (by (repeat' first | assumption | refine St.WF.leave ?_ _ | refine St.WF.add ?_ _ | refine St.WF.set ?_ ?_ _ | refine St.WF.grow ?_ _ _ _ | refine St.WF.keep ?_ ?_ | (first | omega | (simp only [RowOk.lo, nx]; first | done | omega))))); (exact ⟨(by omega), (by (first | (simp (disch := first | decide | omega | (simp only [nx]; first | done | omega)) only [go_sem]; first | done | rfl) | rfl)), (by (first | (simp (disch := first | decide | omega | (simp only [nx]; first | done | omega)) only [go_sem]; first | done | rfl) | rfl)), (by simp [numP, accN]), (by simp [accN]), (by omega), (fun h => by omega)⟩); intro i g tn hn hT hg hI; obtain ⟨le, q5, q10, hp, hm, hk, hu⟩ := hI; have q8 := hg 8 rfl; have q9 := hg 9 rfl; simp (disch := first | decide | omega | (simp only [nx]; first | done | omega)) only [go_sem] at q8 q9; clear hg; have hn' := hn; try simp only [add_next, set_next, grow_next, leave_next, drop_next] at hn')
  by_cases hlt : i < l.length
  · have b1 : decide ((i : Int) < (l.length : Int)) = true := by simp; omega
    have hd := drop_cons' l i hlt
    have hbyte : l[i].toNat < 256 := UInt8.toNat_lt _
    have hacc : accN l (i + 1) = accN l i + l[i].toNat % 128 * 128 ^ i := by rw [accN, List.getD_eq_getElem?_getD, List.getElem?_eq_getElem hlt]; rfl
    by_cases h10 : i = 10
    · have e1 : ((i : Int) == 10) = true := by simp; omega
      (simp (disch := first | decide | omega | (simp only [nx]; first | done | omega)) only [go_sem, q5, q8, q9, q10, b1, e1, bD_eq]; (repeat with_reducible refine aI ?_))
      refine ⟨?_, (by (repeat' first | assumption | exact St.Sub.refl _ | exact RowOk.sub (by assumption) (by assumption) | refine St.Sub.trans ?_ (RowOk.sub (by assumption) (by assumption)) | refine St.Sub.add ?_ ?_ _ | refine St.Sub.set ?_ ?_ ?_ _ | refine St.Sub.keep ?_ ?_ | refine St.WF.leave ?_ _ | refine St.WF.add ?_ _ | refine St.WF.set ?_ ?_ _ | refine St.WF.grow ?_ _ _ _ | refine St.WF.keep ?_ ?_ | (first | omega | (simp only [RowOk.lo, nx]; first | done | omega))))⟩
      rw [hp, hd, numGo, if_pos (.inl h10)]; rfl
    · have e1 : ((i : Int) == 10) = false := by simp; omega
      by_cases h9 : i = 9 ∧ 1 < l[i].toNat
      · have e2 : ((i : Int) == 9) = true := by simp; omega
        have e3 : decide (1 < (l[i].toNat : Int)) = true := by simp; omega
        (simp (disch := first | decide | omega | (simp only [nx]; first | done | omega)) only [go_sem, q5, q8, q9, q10, b1, e1, e2, e3, bD_eq]; (repeat with_reducible refine aI ?_))
        refine ⟨?_, (by (repeat' first | assumption | exact St.Sub.refl _ | exact RowOk.sub (by assumption) (by assumption) | refine St.Sub.trans ?_ (RowOk.sub (by assumption) (by assumption)) | refine St.Sub.add ?_ ?_ _ | refine St.Sub.set ?_ ?_ ?_ _ | refine St.Sub.keep ?_ ?_ | refine St.WF.leave ?_ _ | refine St.WF.add ?_ _ | refine St.WF.set ?_ ?_ _ | refine St.WF.grow ?_ _ _ _ | refine St.WF.keep ?_ ?_ | (first | omega | (simp only [RowOk.lo, nx]; first | done | omega))))⟩
        rw [hp, hd, numGo, if_pos (.inr h9)]; rfl
      · have hg : ¬ (i = 10 ∨ i = 9 ∧ 1 < l[i].toNat) := by omega
        have hdig := digit_put (accN l i) l[i].toNat i hm (by omega) (fun h => by omega) hbyte
        have w7 : IntKind.i64.wrap (7 * (i : Int)) = ((7 * i : Nat) : Int) := by rw [IntWalk.i64_in _ ⟨by omega, by omega⟩]; push_cast; rfl
        have w1 : IntKind.i64.wrap ((i : Int) + 1) = ((i + 1 : Nat) : Int) := IntWalk.i64_in _ ⟨by omega, by omega⟩
        have hs7 : ∀ {t : TypeId} {x y : Operand} (a : Int), dbin Tryz.prog .shl t x y (.v (.int .u64 a)) (.v (.int .i64 ((7 * i : Nat) : Int))) = some (True, .v (.int .u64 (IntKind.u64.wrap (a * 2 ^ (7 * i))))) := fun a => bin_shl7 a i (by omega)
        have hU : accN l (i + 1) < 128 ^ (i + 1) ∧ (i + 1 = 10 → IsU64 (accN l (i + 1))) := by
          rw [hacc]
          refine ⟨?_, fun h => ?_⟩
          · have h2 : l[i].toNat % 128 * 128 ^ i ≤ 127 * 128 ^ i := Nat.mul_le_mul_right _ (by omega)
            rw [Nat.pow_succ]; omega
          · have h5 : i = 9 := by omega
            subst h5
            have h4 : l[9].toNat % 128 * 128 ^ 9 ≤ 1 * 128 ^ 9 := Nat.mul_le_mul_right _ (by omega)
            simp at h4 hm
            unfold IsU64
            omega
        have hcase : ∃ b9 b8 : Bool, ((i : Int) == 9) = b9 ∧ decide (1 < (l[i].toNat : Int)) = b8 ∧ (b9 && b8) = false := ⟨_, _, rfl, rfl, by
          cases h : ((i : Int) == 9)
          · rfl
          · have : ¬ (1 < l[i].toNat) := fun h' => h9 ⟨by have := eq_of_beq h; omega, h'⟩
            simp; omega⟩
        obtain ⟨b9, b8, e2, e3, e4⟩ := hcase
        by_cases hge : 128 ≤ l[i].toNat
        · have g1 : decide ((128 : Int) ≤ (l[i].toNat : Int)) = true := by simp; omega
          have hS : numP l = numGo (i + 1) (accN l (i + 1)) (l.drop (i + 1)) := by rw [hp, hd, numGo, if_neg hg, if_pos hge, hacc]
          cases b9
          · (simp (disch := first | decide | omega | (simp only [nx]; first | done | omega)) only [go_sem, q5, q8, q9, q10, b1, e1, e2, e3, bD_eq, w7, hs7, hdig, g1]; (repeat with_reducible refine aI ?_))
            (refine ⟨by omega, (by (repeat' first | assumption | exact St.Sub.refl _ | exact RowOk.sub (by assumption) (by assumption) | refine St.Sub.trans ?_ (RowOk.sub (by assumption) (by assumption)) | refine St.Sub.add ?_ ?_ _ | refine St.Sub.set ?_ ?_ ?_ _ | refine St.Sub.keep ?_ ?_ | refine St.WF.leave ?_ _ | refine St.WF.add ?_ _ | refine St.WF.set ?_ ?_ _ | refine St.WF.grow ?_ _ _ _ | refine St.WF.keep ?_ ?_ | (first | omega | (simp only [RowOk.lo, nx]; first | done | omega)))), ?_⟩; refine ⟨by omega, ?_, ?_, ?_, ?_, ?_, ?_⟩; all_goals (try (first | (simp (disch := first | decide | omega | (simp only [nx]; first | done | omega)) only [go_sem, w1, hacc]; first | done | rfl) | rfl)))
            · exact hS
            · exact hU.1
            · omega
            · exact hU.2
          · obtain rfl : b8 = false := by simpa using e4
            (simp (disch := first | decide | omega | (simp only [nx]; first | done | omega)) only [go_sem, q5, q8, q9, q10, b1, e1, e2, e3, bD_eq, w7, hs7, hdig, g1]; (repeat with_reducible refine aI ?_))
            (refine ⟨by omega, (by (repeat' first | assumption | exact St.Sub.refl _ | exact RowOk.sub (by assumption) (by assumption) | refine St.Sub.trans ?_ (RowOk.sub (by assumption) (by assumption)) | refine St.Sub.add ?_ ?_ _ | refine St.Sub.set ?_ ?_ ?_ _ | refine St.Sub.keep ?_ ?_ | refine St.WF.leave ?_ _ | refine St.WF.add ?_ _ | refine St.WF.set ?_ ?_ _ | refine St.WF.grow ?_ _ _ _ | refine St.WF.keep ?_ ?_ | (first | omega | (simp only [RowOk.lo, nx]; first | done | omega)))), ?_⟩; refine ⟨by omega, ?_, ?_, ?_, ?_, ?_, ?_⟩; all_goals (try (first | (simp (disch := first | decide | omega | (simp only [nx]; first | done | omega)) only [go_sem, w1, hacc]; first | done | rfl) | rfl)))
            · exact hS
            · exact hU.1
            · omega
            · exact hU.2
        · have g1 : decide ((128 : Int) ≤ (l[i].toNat : Int)) = false := by simp; omega
          by_cases hz : l[i].toNat = 0 ∧ 0 < i
          · have z1 : ((l[i].toNat : Int) == 0) = true := by simp; omega
            have z2 : decide ((0 : Int) < (i : Int)) = true := by simp; omega
            have hR : numP l = none := by rw [hp, hd, numGo, if_neg hg, if_neg hge, if_pos hz]
            rw [hR]
            cases b9
            · (simp (disch := first | decide | omega | (simp only [nx]; first | done | omega)) only [go_sem, q5, q8, q9, q10, b1, e1, e2, e3, bD_eq, w7, hs7, hdig, g1, z1, z2]; (repeat with_reducible refine aI ?_))
              refine ⟨?_, (by (repeat' first | assumption | exact St.Sub.refl _ | exact RowOk.sub (by assumption) (by assumption) | refine St.Sub.trans ?_ (RowOk.sub (by assumption) (by assumption)) | refine St.Sub.add ?_ ?_ _ | refine St.Sub.set ?_ ?_ ?_ _ | refine St.Sub.keep ?_ ?_ | refine St.WF.leave ?_ _ | refine St.WF.add ?_ _ | refine St.WF.set ?_ ?_ _ | refine St.WF.grow ?_ _ _ _ | refine St.WF.keep ?_ ?_ | (first | omega | (simp only [RowOk.lo, nx]; first | done | omega))))⟩
              rfl
            · obtain rfl : b8 = false := by simpa using e4
              (simp (disch := first | decide | omega | (simp only [nx]; first | done | omega)) only [go_sem, q5, q8, q9, q10, b1, e1, e2, e3, bD_eq, w7, hs7, hdig, g1, z1, z2]; (repeat with_reducible refine aI ?_))
              refine ⟨?_, (by (repeat' first | assumption | exact St.Sub.refl _ | exact RowOk.sub (by assumption) (by assumption) | refine St.Sub.trans ?_ (RowOk.sub (by assumption) (by assumption)) | refine St.Sub.add ?_ ?_ _ | refine St.Sub.set ?_ ?_ ?_ _ | refine St.Sub.keep ?_ ?_ | refine St.WF.leave ?_ _ | refine St.WF.add ?_ _ | refine St.WF.set ?_ ?_ _ | refine St.WF.grow ?_ _ _ _ | refine St.WF.keep ?_ ?_ | (first | omega | (simp only [RowOk.lo, nx]; first | done | omega))))⟩
              rfl
          · have hR : numP l = some (accN l (i + 1), i + 1) := by rw [hp, hd, numGo, if_neg hg, if_neg hge, if_neg hz, hacc]
            rw [hR, hacc]
            by_cases hz0 : l[i].toNat = 0
            · have z1 : ((l[i].toNat : Int) == 0) = true := by simp; omega
              have z2 : decide ((0 : Int) < (i : Int)) = false := by simp; omega
              cases b9
              · (simp (disch := first | decide | omega | (simp only [nx]; first | done | omega)) only [go_sem, q5, q8, q9, q10, b1, e1, e2, e3, bD_eq, w7, hs7, hdig, g1, z1, z2, w1]; (repeat with_reducible refine aI ?_))
                refine ⟨?_, (by (repeat' first | assumption | exact St.Sub.refl _ | exact RowOk.sub (by assumption) (by assumption) | refine St.Sub.trans ?_ (RowOk.sub (by assumption) (by assumption)) | refine St.Sub.add ?_ ?_ _ | refine St.Sub.set ?_ ?_ ?_ _ | refine St.Sub.keep ?_ ?_ | refine St.WF.leave ?_ _ | refine St.WF.add ?_ _ | refine St.WF.set ?_ ?_ _ | refine St.WF.grow ?_ _ _ _ | refine St.WF.keep ?_ ?_ | (first | omega | (simp only [RowOk.lo, nx]; first | done | omega))))⟩
                rfl
              · obtain rfl : b8 = false := by simpa using e4
                (simp (disch := first | decide | omega | (simp only [nx]; first | done | omega)) only [go_sem, q5, q8, q9, q10, b1, e1, e2, e3, bD_eq, w7, hs7, hdig, g1, z1, z2, w1]; (repeat with_reducible refine aI ?_))
                refine ⟨?_, (by (repeat' first | assumption | exact St.Sub.refl _ | exact RowOk.sub (by assumption) (by assumption) | refine St.Sub.trans ?_ (RowOk.sub (by assumption) (by assumption)) | refine St.Sub.add ?_ ?_ _ | refine St.Sub.set ?_ ?_ ?_ _ | refine St.Sub.keep ?_ ?_ | refine St.WF.leave ?_ _ | refine St.WF.add ?_ _ | refine St.WF.set ?_ ?_ _ | refine St.WF.grow ?_ _ _ _ | refine St.WF.keep ?_ ?_ | (first | omega | (simp only [RowOk.lo, nx]; first | done | omega))))⟩
                rfl
            · have z1 : ((l[i].toNat : Int) == 0) = false := by simp; omega
              cases b9
              · (simp (disch := first | decide | omega | (simp only [nx]; first | done | omega)) only [go_sem, q5, q8, q9, q10, b1, e1, e2, e3, bD_eq, w7, hs7, hdig, g1, z1, w1]; (repeat with_reducible refine aI ?_))
                refine ⟨?_, (by (repeat' first | assumption | exact St.Sub.refl _ | exact RowOk.sub (by assumption) (by assumption) | refine St.Sub.trans ?_ (RowOk.sub (by assumption) (by assumption)) | refine St.Sub.add ?_ ?_ _ | refine St.Sub.set ?_ ?_ ?_ _ | refine St.Sub.keep ?_ ?_ | refine St.WF.leave ?_ _ | refine St.WF.add ?_ _ | refine St.WF.set ?_ ?_ _ | refine St.WF.grow ?_ _ _ _ | refine St.WF.keep ?_ ?_ | (first | omega | (simp only [RowOk.lo, nx]; first | done | omega))))⟩
                rfl
              · obtain rfl : b8 = false := by simpa using e4
                (simp (disch := first | decide | omega | (simp only [nx]; first | done | omega)) only [go_sem, q5, q8, q9, q10, b1, e1, e2, e3, bD_eq, w7, hs7, hdig, g1, z1, w1]; (repeat with_reducible refine aI ?_))
                refine ⟨?_, (by (repeat' first | assumption | exact St.Sub.refl _ | exact RowOk.sub (by assumption) (by assumption) | refine St.Sub.trans ?_ (RowOk.sub (by assumption) (by assumption)) | refine St.Sub.add ?_ ?_ _ | refine St.Sub.set ?_ ?_ ?_ _ | refine St.Sub.keep ?_ ?_ | refine St.WF.leave ?_ _ | refine St.WF.add ?_ _ | refine St.WF.set ?_ ?_ _ | refine St.WF.grow ?_ _ _ _ | refine St.WF.keep ?_ ?_ | (first | omega | (simp only [RowOk.lo, nx]; first | done | omega))))⟩
                rfl
  · have b1 : decide ((i : Int) < (l.length : Int)) = false := by simp; omega
    have hR : numP l = none := by rw [hp, List.drop_eq_nil_of_le (by omega)]; rfl
    rw [hR]
    (simp (disch := first | decide | omega | (simp only [nx]; first | done | omega)) only [go_sem, q5, q8, q9, q10, b1]; (repeat with_reducible refine aI ?_))
    refine ⟨?_, (by (repeat' first | assumption | exact St.Sub.refl _ | exact RowOk.sub (by assumption) (by assumption) | refine St.Sub.trans ?_ (RowOk.sub (by assumption) (by assumption)) | refine St.Sub.add ?_ ?_ _ | refine St.Sub.set ?_ ?_ ?_ _ | refine St.Sub.keep ?_ ?_ | refine St.WF.leave ?_ _ | refine St.WF.add ?_ _ | refine St.WF.set ?_ ?_ _ | refine St.WF.grow ?_ _ _ _ | refine St.WF.keep ?_ ?_ | (first | omega | (simp only [RowOk.lo, nx]; first | done | omega))))⟩
    rfl
end Go.Proofs.YtjjhjhjphhpeiaaGreatDoor

namespace Go.Proofs.YtjjhjhjphhpeiaaGreatDoor
open Go.RowKit
section
variable {P : Program} {t : TypeId} {x : Operand}
theorem bin_nil_eql (c : Value) : dbin Tryz.prog .eql 35 x (.const c) (.v .nilIface) (.v .nilIface) = some (True, .v (.bool true)) := by cases x <;> kernel_rfl
theorem bin_nil_neq (c : Value) : dbin Tryz.prog .neq 35 x (.const c) (.v .nilIface) (.v .nilIface) = some (True, .v (.bool false)) := by cases x <;> kernel_rfl
end
attribute [go_sem] bin_nil_eql bin_nil_neq
def RAt (k : Nat) (l : List UInt8) (i : Nat) (T : St) : Prop := ∃ own, T.ob k = some (.box 133 [.sl own (l.map bD), .v (.int .i64 (i : Int)), .v .nilIface])
theorem RAt.keep {k : Nat} {l : List UInt8} {i : Nat} {S T : St} (h : RAt k l i S) (hb : ∀ j o, S.ob j = some o → T.ob j = some o) : RAt k l i T := by
  obtain ⟨own, h⟩ := h
  exact ⟨own, hb _ _ h⟩
structure RFr (k : Nat) (S T : St) : Prop where
  next : S.next ≤ T.next
  ob : ∀ j o, j ≠ k → S.ob j = some o → T.ob j = some o
theorem RFr.refl (k : Nat) (S : St) : RFr k S S := ⟨Nat.le_refl _, fun _ _ _ h => h⟩
theorem RFr.trans {k : Nat} {A B C : St} (h : RFr k A B) (g : RFr k B C) : RFr k A C := ⟨Nat.le_trans h.next g.next, fun j o hj e => g.ob j o hj (h.ob j o hj e)⟩
theorem RFr.box {k : Nat} {S T : St} (h : RFr k S T) (j : Nat) (t : TypeId) (cs : List D) (hj : j ≠ k) (e : S.ob j = some (.box t cs)) : T.ob j = some (.box t cs) := h.ob j _ hj e
theorem RFr.add {k : Nat} {S T : St} (h : RFr k S T) (hT : T.WF) (o : Ob) : RFr k S (T.add o) := h.trans ⟨Nat.le_succ _, fun j o' _ e => add_keep hT o j o' e⟩
theorem wd_c (l : List UInt8) : ∀ d ∈ l.map bD, d.cells.length = 1 := by
  intro d hd
  obtain ⟨b, _, rfl⟩ := List.mem_map.1 hd
  rfl
theorem take_bD (l : List UInt8) : List.take l.length (l.map bD) = l.map bD := List.take_of_length_le (by simp)
set_option maxRecDepth 200000 in
set_option maxHeartbeats 8000000 in
theorem field_r {S : St} {k : Nat} {l : List UInt8} {i s : Nat} (g : FuncId) (fs cs : List D) (C : St → Prop) (hk : k < S.next) (hr : RAt k l i S) (hi : i ≤ l.length) (hl : l.length ≤ 1099511627776) (hs : i + s ≤ l.length)
    (hC : ∀ T, C T → S.next ≤ T.next ∧ T.ob k = S.ob k)
    (h : DCalls Tryz.prog g (fs ++ [.sl .no ((l.drop i).map bD)] ++ cs) S fun d T => d = .tup [.v (.int .i64 (s : Int)), .v (.int .i64 0)] ∧ C T) :
    DCalls Tryz.prog 134 [.loc k 0, .fn (.func g) fs cs] S fun d T' => d = undefD ∧ ∃ T own, C T ∧ k < T.next ∧ T' = T.set k (.box 133 [.sl own (l.map bD), .v (.int .i64 ((i + s : Nat) : Int)), .v .nilIface]) := by
  obtain ⟨own, hr⟩ := hr
  refine dcalls_inline mixed Tryz.func134 rfl (fun _ _ => by kernel_rfl) (rs := []) rfl (by kernel_rfl) (fun hS => ?_)
  (simp (disch := first | decide | omega | (simp only [nx]; first | done | omega)) only [go_sem, hr]; (repeat with_reducible refine aI ?_))
  have hib : (i : Int) ≤ (l.length : Int) := by omega
  refine ddraw_any (fun S' => S'.ob k = some (.box 133 [.sl own (l.map bD), .v (.int .i64 (i : Int)), .v .nilIface])) 16 (by (first | (simp (disch := first | decide | omega | (simp only [nx]; first | done | omega)) only [go_sem, hr]; first | done | rfl) | rfl)) (by kernel_rfl) ?_
  (refine s_take 0 rfl (by kernel_rfl) (by kernel_rfl) (v := ?v1) (fun S' hz => dquietR_of ?h1) <| s_take 1 rfl (by kernel_rfl) (by kernel_rfl) (v := ?v2) (fun S' hz => dquietR_of ?h2) <| s_take 2 rfl (by kernel_rfl) (by kernel_rfl) (v := ?v3) (fun S' hz => dquietR_of ?h3) <| s_take 3 rfl (by kernel_rfl) (by kernel_rfl) (v := ?v4) (fun S' hz => dquietR_of ?h4) <| s_take 4 rfl (by kernel_rfl) (by kernel_rfl) (v := ?v5) (fun S' hz => dquietR_of ?h5) <| s_take 5 rfl (by kernel_rfl) (by kernel_rfl) (v := ?v6) (fun S' hz => dquietR_of ?h6) <| s_take 6 rfl (by kernel_rfl) (by kernel_rfl) (v := ?v7) (fun S' hz => dquietR_of ?h7) <| s_take 7 rfl (by kernel_rfl) (by kernel_rfl) (v := ?v8) (fun S' hz => dquietR_of ?h8) <| s_take 8 rfl (by kernel_rfl) (by kernel_rfl) (v := ?v9) (fun S' hz => dquietR_of ?h9) <| ?k9; (case h1 | h2 | h3 | h4 | h5 | h6 | h7 | h8 | h9 => ((simp (disch := first | decide | omega | (simp only [nx]; first | done | omega)) only [go_sem, hr, hz]; (repeat with_reducible refine aI ?_)); first | done | exact rfl | omega)))
  refine s_take 9 rfl (by kernel_rfl) (by kernel_rfl) (v := .sl .no ((l.drop i).map bD)) (fun S' hz => dquietR_of (by simp (disch := first | decide | omega | (simp only [nx]; first | done | omega)) only [go_sem, hz]; exact ⟨⟨hib, .inr (wd_c l)⟩, by first | rw [take_bD, List.map_drop] | rw [List.map_drop]⟩)) ?_
  (refine s_split [10] (by kernel_rfl) (by simp) ?_; intro j_ hj_; obtain rfl : j_ = 10 := (by simpa using hj_); clear hj_; refine s_op rfl ?_; (simp (disch := first | decide | omega | (simp only [nx]; first | done | omega)) only [go_sem, hr]; (repeat with_reducible refine aI ?_)))
  refine h.mono ?_
  rintro _ T ⟨rfl, hc⟩
  have hT := (hC T hc).2.trans hr
  refine ⟨hT, ?_⟩
  (refine s_take 11 rfl (by kernel_rfl) (by kernel_rfl) (v := ?v10) (fun S' hz => dquietR_of ?h10) <| s_take 12 rfl (by kernel_rfl) (by kernel_rfl) (v := ?v11) (fun S' hz => dquietR_of ?h11) <| s_take 13 rfl (by kernel_rfl) (by kernel_rfl) (v := ?v12) (fun S' hz => dquietR_of ?h12) <| s_take 14 rfl (by kernel_rfl) (by kernel_rfl) (v := ?v13) (fun S' hz => dquietR_of ?h13) <| s_take 15 rfl (by kernel_rfl) (by kernel_rfl) (v := ?v14) (fun S' hz => dquietR_of ?h14) <| ?k14; (case h10 | h11 | h12 | h13 | h14 => ((simp (disch := first | decide | omega | (simp only [nx]; first | done | omega)) only [go_sem, hT, hz]; (repeat with_reducible refine aI ?_)); first | done | exact rfl | omega)))
  have b00 : ((0 : Int) != 0) = false := rfl
  have wi : IntKind.i64.wrap ((i : Int) + (s : Int)) = ((i + s : Nat) : Int) := by rw [IntWalk.i64_in _ ⟨by omega, by omega⟩]; push_cast; rfl
  (refine s_done (by kernel_rfl) ?_; (simp (disch := first | decide | omega | (simp only [nx]; first | done | omega)) only [go_sem, hT, b00, wi]; (repeat with_reducible refine aI ?_)))
  exact ⟨T, own, hc, by have := (hC T hc).1; omega, rfl⟩
theorem set_ne {S : St} {a b : Nat} {o : Ob} (h : a ≠ b) : (S.set b o).ob a = S.ob a := by simp [St.set, h]
theorem set_eq {S : St} {b : Nat} {o : Ob} : (S.set b o).ob b = some o := by simp [St.set]
theorem add_ne {S : St} {a : Nat} {o : Ob} (h : a < S.next) : (S.add o).ob a = S.ob a := by simp [St.add, show a ≠ S.next by omega]
theorem add_eq {S : St} {o : Ob} : (S.add o).ob S.next = some o := by simp [St.add]
theorem numP_le {l : List UInt8} {n s : Nat} (h : numP l = some (n, s)) : s ≤ l.length ∧ IsU64 n := by
  have := numGo_bounds l 0 0 (by omega) (by simp) (by omega) n s h
  exact ⟨by omega, this.1⟩
set_option maxRecDepth 200000 in
set_option maxHeartbeats 8000000 in
theorem num1_r {S : St} {a b : Nat} {l : List UInt8} {n s mx : Nat} {cs : List D} (hab : a ≠ b) (ha : S.ob a = some (.box 42 [.v (.int .u64 (mx : Int))])) (hb : S.ob b = some (.box 42 cs)) (hcs : cs.length = 1) (hl : l.length ≤ 1099511627776) (hN : numP l = some (n, s)) (hmx : n ≤ mx) :
    DCalls Tryz.prog 137 [.sl .no (l.map bD), .loc a 0, .loc b 0] S fun d T => d = .tup [.v (.int .i64 (s : Int)), .v (.int .i64 0)] ∧ T = S.set b (.box 42 [.v (.int .u64 (n : Int))]) := by
  refine dcalls_inline mixed Tryz.func137 rfl (fun _ _ => by kernel_rfl) (rs := [.tmp 4, .tmp 5]) rfl (by kernel_rfl) (fun hS => ?_)
  have b00 : ((0 : Int) != 0) = false := rfl
  have b01 : ((0 : Int) == 0) = true := rfl
  have b1 : decide ((mx : Int) < (n : Int)) = false := by simp; omega
  obtain ⟨c0, rfl⟩ : ∃ c, cs = [c] := by match cs, hcs with | [c], _ => exact ⟨c, rfl⟩
  (simp (disch := first | decide | omega | (simp only [nx]; first | done | omega)) only [go_sem, ha, hb]; (repeat with_reducible refine aI ?_))
  refine DCalls.of_pure (number_d .no l hl) ?_
  rw [hN]
  (simp (disch := first | decide | omega | (simp only [nx]; first | done | omega)) only [go_sem, ha, hb, b00, b01, b1, numD]; (repeat with_reducible refine aI ?_))
set_option maxRecDepth 200000 in
set_option maxHeartbeats 8000000 in
theorem number_r {S : St} {k : Nat} {l : List UInt8} {i n s mx : Nat} (hk : k < S.next) (hr : RAt k l i S) (hl : l.length ≤ 1099511627776) (hi : i ≤ l.length) (hN : numP (l.drop i) = some (n, s)) (hmx : n ≤ mx) :
    DCalls Tryz.prog 97 [.loc k 0, .v (.int .u64 (mx : Int))] S fun d T => d = .v (.int .u64 (n : Int)) ∧ RAt k l (i + s) T ∧ RFr k S T := by
  have hs := (numP_le hN).1
  rw [List.length_drop] at hs
  refine dcalls_inline mixed Tryz.func97 rfl (fun _ _ => by kernel_rfl) (rs := [.tmp 4]) rfl (by kernel_rfl) (fun hS => ?_)
  (simp (disch := first | decide | omega | (simp only [nx]; first | done | omega)) only [go_sem]; (repeat with_reducible refine aI ?_))
  refine (field_r _ [] _ (fun T => T = ((S.add (.box 42 [.v (.int .u64 (mx : Int))])).add (.box 42 [.v (.int .u64 0)])).set (S.next + 1) (.box 42 [.v (.int .u64 (n : Int))])) (by show k < S.next + 1 + 1; omega) (hr.keep fun j o e => by have := hS.lt e; rw [add_ne (by show j < S.next + 1; omega), add_ne this, e]) hi hl (s := s) (by omega) ?_ ?_).mono ?_
  · rintro T rfl
    exact ⟨Nat.le_refl _, set_ne (by omega)⟩
  · exact num1_r (by omega) (by rw [add_ne (by show S.next < S.next + 1; omega), add_eq]) (add_eq (S := S.add _)) rfl (by rw [List.length_drop]; omega) hN hmx
  · rintro _ T' ⟨rfl, T, own, rfl, hk', rfl⟩
    (simp (disch := first | decide | omega | (simp only [nx]; first | done | omega)) only [go_sem, hk']; (repeat with_reducible refine aI ?_))
    refine ⟨⟨own, set_eq⟩, ⟨by show S.next ≤ S.next + 1 + 1; omega, fun j o hj e => ?_⟩⟩
    have := hS.lt e
    rw [set_ne hj, set_ne (by omega), add_ne (by show j < S.next + 1; omega), add_ne this, e]
def bytP (l : List UInt8) (mx : Nat) : Option (List UInt8 × Nat) := match numP l with
  | some (n, s) => if n ≤ mx ∧ s + n ≤ l.length then some ((l.drop s).take n, s + n) else none
  | none => none
theorem bytP_numB (xs rest : List UInt8) (mx : Nat) (h : xs.length ≤ mx) (hu : xs.length < 18446744073709551616) : bytP (numB xs.length ++ xs ++ rest) mx = some (xs, (numB xs.length).length + xs.length) := by
  unfold bytP
  rw [List.append_assoc, numP_numB _ _ hu]
  simp only
  rw [if_pos ⟨h, by simp⟩]
  simp
theorem bytP_some {l xs : List UInt8} {mx s : Nat} (h : bytP l mx = some (xs, s)) : ∃ n q, numP l = some (n, q) ∧ n ≤ mx ∧ q + n ≤ l.length ∧ xs = (l.drop q).take n ∧ s = q + n := by
  unfold bytP at h
  split at h
  · rename_i n q e
    split at h
    · rename_i h1
      injection h with h
      injection h with h2 h3
      exact ⟨n, q, e, h1.1, h1.2, h2.symm, h3.symm⟩
    · cases h
  · cases h
set_option maxRecDepth 200000 in
set_option maxHeartbeats 8000000 in
theorem byt1_r {S : St} {a b : Nat} {l xs : List UInt8} {s mx : Nat} (hab : a ≠ b) (hbn : b < S.next) (ha : S.ob a = some (.box 3 [.v (.int .i64 (mx : Int))])) (hb : S.ob b = some (.box 53 [.sl .full []])) (hl : l.length ≤ 1099511627776) (hm : mx ≤ 1099511627776) (hN : bytP l mx = some (xs, s)) :
    DCalls Tryz.prog 178 [.sl .no (l.map bD), .loc a 0, .loc b 0] S fun d T => d = .tup [.v (.int .i64 (s : Int)), .v (.int .i64 0)] ∧ T = (S.grow .full 5 xs.length).set b (.box 53 [.sl (.row S.next) (xs.map bD)]) := by
  obtain ⟨n, q, hN', hmx, hq, rfl, rfl⟩ := bytP_some hN
  clear hN
  have hN := hN'
  have mx0 : (if (0 : Int) < (mx : Int) then (mx : Int) else 0) = (mx : Int) := by split <;> omega
  have hn := (numP_le hN).2
  refine dcalls_inline mixed Tryz.func178 rfl (fun _ _ => by kernel_rfl) (rs := [.tmp 4, .tmp 5]) rfl (by kernel_rfl) (fun hS => ?_)
  have b00 : ((0 : Int) != 0) = false := rfl
  have wm : IntKind.u64.wrap (mx : Int) = (mx : Int) := wrap_u64 mx (by unfold IsU64; omega)
  have wl : IntKind.i64.wrap ((l.length : Int) - (q : Int)) = ((l.length - q : Nat) : Int) := by rw [IntWalk.i64_in _ ⟨by omega, by omega⟩]; omega
  have wu : IntKind.u64.wrap ((l.length - q : Nat) : Int) = ((l.length - q : Nat) : Int) := wrap_u64 _ (by unfold IsU64; omega)
  have wn : IntKind.i64.wrap (n : Int) = (n : Int) := IntWalk.i64_in _ ⟨by omega, by omega⟩
  have wq : IntKind.i64.wrap ((q : Int) + (n : Int)) = ((q + n : Nat) : Int) := by rw [IntWalk.i64_in _ ⟨by omega, by omega⟩]; push_cast; rfl
  have b1 : decide ((mx : Int) < (n : Int)) = false := by simp; omega
  have b2 : decide (((l.length - q : Nat) : Int) < (n : Int)) = false := by simp; omega
  (simp (disch := first | decide | omega | (simp only [nx]; first | done | omega)) only [go_sem, ha, hb]; (repeat with_reducible refine aI ?_))
  refine DCalls.of_pure (number_d .no l hl) ?_
  rw [hN]
  (simp (disch := first | decide | omega | (simp only [nx]; first | done | omega)) only [go_sem, ha, hb, b00, numD, mx0, wm, wl, wu, wn, wq, b1, b2]; (repeat with_reducible refine aI ?_))
  have hsl : List.drop q (List.take (q + n) (l.map bD)) = ((l.drop q).take n).map bD := by rw [← List.map_take, ← List.map_drop, List.drop_take, Nat.add_sub_cancel_left]
  have hle : ((q + n : Nat) : Int) ≤ (l.length : Int) := by omega
  have hle0 : (q : Int) ≤ ((q + n : Nat) : Int) := by omega
  have hwd := eq_true (wd_c l)
  refine ddraw_mk 8 (by kernel_rfl) ?_
  simp (disch := first | decide | omega | (simp only [nx]; first | done | omega)) only [go_sem, ha, hb, b00, wn, wq, hsl, hwd, hle, hle0]
  refine dapp_bytes (bs := []) (.inl ⟨rfl, rfl⟩) (by rw [List.length_take, List.length_drop]; simp; omega) ?_
  have hbS : (b = S.next) = False := by simp; omega
  (simp (disch := first | decide | omega | (simp only [nx]; first | done | omega)) only [go_sem, ha, hb, wn, wq, hbS]; (repeat with_reducible refine aI ?_))
set_option maxRecDepth 200000 in
set_option maxHeartbeats 8000000 in
theorem bytes_r {S : St} {k : Nat} {l xs : List UInt8} {i s mx : Nat} (hk : k < S.next) (hr : RAt k l i S) (hl : l.length ≤ 1099511627776) (hi : i ≤ l.length) (hm : mx ≤ 1099511627776) (hN : bytP (l.drop i) mx = some (xs, s)) :
    DCalls Tryz.prog 170 [.loc k 0, .v (.int .i64 (mx : Int))] S fun d T => (∃ o, d = .sl o (xs.map bD)) ∧ RAt k l (i + s) T ∧ RFr k S T := by
  obtain ⟨n, q, hN', _, hq, _, hsq⟩ := bytP_some hN
  rw [List.length_drop] at hq
  refine dcalls_inline mixed Tryz.func170 rfl (fun _ _ => by kernel_rfl) (rs := [.tmp 4]) rfl (by kernel_rfl) (fun hS => ?_)
  (simp (disch := first | decide | omega | (simp only [nx]; first | done | omega)) only [go_sem]; (repeat with_reducible refine aI ?_))
  refine (field_r _ [] _ (fun T => T = (((S.add (.box 3 [.v (.int .i64 (mx : Int))])).add (.box 53 [.sl .full []])).grow .full 5 xs.length).set (S.next + 1) (.box 53 [.sl (.row (S.next + 1 + 1)) (xs.map bD)])) (by show k < S.next + 1 + 1; omega) (hr.keep fun j o e => by have := hS.lt e; rw [add_ne (by show j < S.next + 1; omega), add_ne this, e]) hi hl (s := s) (by omega) ?_ ?_).mono ?_
  · rintro T rfl
    refine ⟨by show S.next + 1 + 1 ≤ S.next + 1 + 1 + 1; omega, ?_⟩
    rw [set_ne (by omega)]
    simp only [St.grow, St.leave]
    exact add_ne (by show k < S.next + 1 + 1; omega)
  · exact byt1_r (by omega) (by show S.next + 1 < S.next + 1 + 1; omega) (by rw [add_ne (by show S.next < S.next + 1; omega), add_eq]) (add_eq (S := S.add _)) (by rw [List.length_drop]; omega) hm hN
  · rintro _ T' ⟨rfl, T, own, rfl, hk', rfl⟩
    (simp (disch := first | decide | omega | (simp only [nx]; first | done | omega)) only [go_sem, hk']; (repeat with_reducible refine aI ?_))
    refine ⟨⟨_, rfl⟩, ⟨own, set_eq⟩, ⟨by show S.next ≤ S.next + 1 + 1 + 1; omega, fun j o hj e => ?_⟩⟩
    have := hS.lt e
    rw [set_ne hj, set_ne (by omega)]
    simp only [St.grow, St.leave]
    rw [add_ne (by show j < S.next + 1 + 1; omega), add_ne (by show j < S.next + 1; omega), add_ne this, e]
set_option maxRecDepth 200000 in
set_option maxHeartbeats 8000000 in
theorem text_r {S : St} {k : Nat} {l xs : List UInt8} {i s mx : Nat} (hk : k < S.next) (hr : RAt k l i S) (hl : l.length ≤ 1099511627776) (hi : i ≤ l.length) (hm : mx ≤ 1099511627776) (hN : bytP (l.drop i) mx = some (xs, s)) :
    DCalls Tryz.prog 157 [.loc k 0, .v (.int .i64 (mx : Int))] S fun d T => d = .v (.string ⟨xs.toArray⟩) ∧ RAt k l (i + s) T ∧ RFr k S T := by
  refine dcalls_inline mixed Tryz.func157 rfl (fun _ _ => by kernel_rfl) (rs := [.tmp 4]) rfl (by kernel_rfl) (fun hS => ?_)
  (simp (disch := first | decide | omega | (simp only [nx]; first | done | omega)) only [go_sem]; (repeat with_reducible refine aI ?_))
  refine (bytes_r hk hr hl hi hm hN).mono ?_
  rintro _ T ⟨⟨o, rfl⟩, h1, h2⟩
  (simp (disch := first | decide | omega | (simp only [nx]; first | done | omega)) only [go_sem]; (repeat with_reducible refine aI ?_))
  exact h2
set_option maxRecDepth 200000 in
set_option maxHeartbeats 8000000 in
theorem err_r {S : St} {k : Nat} {l : List UInt8} {i : Nat} (hr : RAt k l i S) : DCalls Tryz.prog 99 [.loc k 0] S fun d T => d = .v .nilIface ∧ T = S := by
  obtain ⟨own, hr⟩ := hr
  refine dcalls_inline mixed Tryz.func99 rfl (fun _ _ => by kernel_rfl) (rs := [.tmp 2]) rfl (by kernel_rfl) (fun hS => ?_)
  (simp (disch := first | decide | omega | (simp only [nx]; first | done | omega)) only [go_sem, hr]; (repeat with_reducible refine aI ?_))
set_option maxRecDepth 200000 in
set_option maxHeartbeats 8000000 in
theorem end_r {S : St} {k : Nat} {l : List UInt8} (hr : RAt k l l.length S) : DCalls Tryz.prog 61 [.loc k 0] S fun d T => d = .v .nilIface ∧ T = S := by
  have hr0 := hr
  obtain ⟨own, hr⟩ := hr
  refine dcalls_inline mixed Tryz.func61 rfl (fun _ _ => by kernel_rfl) (rs := [.tmp 2]) rfl (by kernel_rfl) (fun hS => ?_)
  have b1 : decide ((l.length : Int) < (l.length : Int)) = false := by simp
  (simp (disch := first | decide | omega | (simp only [nx]; first | done | omega)) only [go_sem, hr, b1]; (repeat with_reducible refine aI ?_))
  refine ddraw_mk 14 (by kernel_rfl) ?_
  (simp (disch := first | decide | omega | (simp only [nx]; first | done | omega)) only [go_sem, hr, b1]; (repeat with_reducible refine aI ?_))
  refine (err_r hr0).mono ?_
  rintro _ T ⟨rfl, rfl⟩
  (simp (disch := first | decide | omega | (simp only [nx]; first | done | omega)) only [go_sem]; (repeat with_reducible refine aI ?_))
set_option maxRecDepth 200000 in
set_option maxHeartbeats 8000000 in
theorem new_r {S : St} {l : List UInt8} {o : Own} (hl : l.length ≤ 1099511627776) : DCalls Tryz.prog 59 [.sl o (l.map bD)] S fun d T => ∃ k, d = .loc k 0 ∧ S.next ≤ k ∧ k < T.next ∧ RAt k l 0 T ∧ ∀ j o, S.ob j = some o → T.ob j = some o := by
  refine dcalls_inline mixed Tryz.func59 rfl (fun _ _ => by kernel_rfl) (rs := [.tmp 2]) rfl (by kernel_rfl) (fun hS => ?_)
  (simp (disch := first | decide | omega | (simp only [nx]; first | done | omega)) only [go_sem]; (repeat with_reducible refine aI ?_))
  refine dapp_bytes (bs := []) (.inl ⟨rfl, rfl⟩) (by simpa using hl) ?_
  (simp (disch := first | decide | omega | (simp only [nx]; first | done | omega)) only [go_sem]; (repeat with_reducible refine aI ?_))
  refine ⟨S.next + 1, rfl, by omega, by omega, ⟨.row S.next, add_eq (S := S.grow .full 5 l.length)⟩, fun j o e => ?_⟩
  have := hS.lt e
  rw [add_ne (by show j < S.next + 1; omega)]
  simp only [St.grow, St.leave]
  rw [add_ne this, e]
end Go.Proofs.YtjjhjhjphhpeiaaGreatDoor

namespace Go.Proofs.YtjjhjhjphhpeiaaGreatDoor
open Go.RowKit
theorem name_d (s : Str) (hs : s.length ≤ maxLen) : DPure Tryz.prog 125 [.v (sv s)] (.v (.bool (nameB s))) :=
  dpure_of_gives (fun _ _ => by kernel_rfl) fun w η X vs hr => by
    simp only [RepL, Rep] at hr
    obtain ⟨x, xs, rfl, rfl, rfl⟩ := hr
    exact name_calls s w hs
theorem nameB_nil : nameB [] = false := by decide
def fineB (p : DStp) : Bool := (nameB p.1 && ((p.2 : Int) == 0)) || (p.1 == [] && !((p.2 : Int) == 0))
set_option maxRecDepth 200000 in
set_option maxHeartbeats 8000000 in
theorem fine_d (p : DStp) (hl : p.1.length ≤ maxLen) : DPure Tryz.prog 80 [encP p] (.v (.bool (fineB p))) := by
  refine dpure_of_dwp mixed Tryz.func80 rfl (fun _ _ => by kernel_rfl) (rs := [.tmp 2]) rfl (by kernel_rfl) trivial (fun S hS => ?_)
  by_cases h0 : p.1 = []
  · have b1 : (p.1 == []) = true := by simp [h0]
    (simp (disch := first | decide | omega | (simp only [nx]; first | done | omega)) only [go_sem, encP, b1]; (repeat with_reducible refine aI ?_))
    refine ⟨?_, (by (repeat' first | assumption | exact St.Sub.refl _ | exact RowOk.sub (by assumption) (by assumption) | refine St.Sub.trans ?_ (RowOk.sub (by assumption) (by assumption)) | refine St.Sub.add ?_ ?_ _ | refine St.Sub.set ?_ ?_ ?_ _ | refine St.Sub.keep ?_ ?_ | refine St.WF.leave ?_ _ | refine St.WF.add ?_ _ | refine St.WF.set ?_ ?_ _ | refine St.WF.grow ?_ _ _ _ | refine St.WF.keep ?_ ?_ | (first | omega | (simp only [RowOk.lo, nx]; first | done | omega))))⟩
    rw [fineB, b1, h0, nameB_nil]; simp [D.frz, bne]
  · have b1 : (p.1 == []) = false := by simp [h0]
    cases b2 : ((p.2 : Int) == 0)
    · (simp (disch := first | decide | omega | (simp only [nx]; first | done | omega)) only [go_sem, encP, b1, b2]; (repeat with_reducible refine aI ?_))
      refine ⟨?_, (by (repeat' first | assumption | exact St.Sub.refl _ | exact RowOk.sub (by assumption) (by assumption) | refine St.Sub.trans ?_ (RowOk.sub (by assumption) (by assumption)) | refine St.Sub.add ?_ ?_ _ | refine St.Sub.set ?_ ?_ ?_ _ | refine St.Sub.keep ?_ ?_ | refine St.WF.leave ?_ _ | refine St.WF.add ?_ _ | refine St.WF.set ?_ ?_ _ | refine St.WF.grow ?_ _ _ _ | refine St.WF.keep ?_ ?_ | (first | omega | (simp only [RowOk.lo, nx]; first | done | omega))))⟩
      rw [fineB, b1, b2]; simp [D.frz]
    · (simp (disch := first | decide | omega | (simp only [nx]; first | done | omega)) only [go_sem, encP, b1, b2]; (repeat with_reducible refine aI ?_))
      refine DCalls.of_pure (name_d p.1 hl) ?_
      (simp (disch := first | decide | omega | (simp only [nx]; first | done | omega)) only [go_sem]; (repeat with_reducible refine aI ?_))
      refine ⟨?_, (by (repeat' first | assumption | exact St.Sub.refl _ | exact RowOk.sub (by assumption) (by assumption) | refine St.Sub.trans ?_ (RowOk.sub (by assumption) (by assumption)) | refine St.Sub.add ?_ ?_ _ | refine St.Sub.set ?_ ?_ ?_ _ | refine St.Sub.keep ?_ ?_ | refine St.WF.leave ?_ _ | refine St.WF.add ?_ _ | refine St.WF.set ?_ ?_ _ | refine St.WF.grow ?_ _ _ _ | refine St.WF.keep ?_ ?_ | (first | omega | (simp only [RowOk.lo, nx]; first | done | omega))))⟩
      rw [fineB, b1, b2]; simp [D.frz]
set_option maxRecDepth 200000 in
set_option maxHeartbeats 8000000 in
theorem notFine_d (p : DStp) (hl : p.1.length ≤ maxLen) : DPure Tryz.prog 79 [encP p] (.v (.bool (!fineB p))) := by
  refine dpure_of_dwp mixed Tryz.func79 rfl (fun _ _ => by kernel_rfl) (rs := [.tmp 2]) rfl (by kernel_rfl) trivial (fun S hS => ?_)
  (simp (disch := first | decide | omega | (simp only [nx]; first | done | omega)) only [go_sem, encP]; (repeat with_reducible refine aI ?_))
  refine DCalls.of_pure (fine_d p hl) ?_
  (simp (disch := first | decide | omega | (simp only [nx]; first | done | omega)) only [go_sem]; (repeat with_reducible refine aI ?_))
  refine ⟨?_, (by (repeat' first | assumption | exact St.Sub.refl _ | exact RowOk.sub (by assumption) (by assumption) | refine St.Sub.trans ?_ (RowOk.sub (by assumption) (by assumption)) | refine St.Sub.add ?_ ?_ _ | refine St.Sub.set ?_ ?_ ?_ _ | refine St.Sub.keep ?_ ?_ | refine St.WF.leave ?_ _ | refine St.WF.add ?_ _ | refine St.WF.set ?_ ?_ _ | refine St.WF.grow ?_ _ _ _ | refine St.WF.keep ?_ ?_ | (first | omega | (simp only [RowOk.lo, nx]; first | done | omega))))⟩
  rfl
def ixF (l : List DStp) : Int := match l.findIdx? (fun p => !fineB p) with
  | some i => i
  | none => -1
set_option maxRecDepth 200000 in
set_option maxHeartbeats 8000000 in
theorem ixF_d (own : Own) (l : List DStp) (hl : l.length ≤ 1000000) (hs : ∀ p ∈ l, p.1.length ≤ maxLen) : DPure Tryz.prog 124 [.sl own (l.map encP), .fn (.func 79) [] []] (.v (.int .i64 (ixF l))) := by
  refine dpure_of_dwp mixed Tryz.func124 rfl (fun _ _ => by kernel_rfl) (rs := [.tmp 4]) rfl (by kernel_rfl) trivial (fun S hS => ?_)
  (simp (disch := first | decide | omega | (simp only [nx]; first | done | omega)) only [go_sem]; (repeat with_reducible refine aI ?_))
  (refine dloop_st (fun t => List.contains [4, 5, 8, 9, 10, 11, 12, 13, 14, 15, 16, 17, 18] t) (by kernel_rfl) ?_ (l.length) (fun i f => i ≤ l.length ∧ f 8 = .v (.int .i64 (i : Nat)) ∧ (∀ j (hj : j < l.length), j < i → fineB l[j] = true)) ?_ ?_; (exact (by (repeat' first | assumption | refine St.WF.leave ?_ _ | refine St.WF.add ?_ _ | refine St.WF.set ?_ ?_ _ | refine St.WF.grow ?_ _ _ _ | refine St.WF.keep ?_ ?_ | (first | omega | (simp only [RowOk.lo, nx]; first | done | omega))))); (exact ⟨(by omega), (by (first | (simp (disch := first | decide | omega | (simp only [nx]; first | done | omega)) only [go_sem]; first | done | rfl) | rfl)), (fun j _ hj => by omega)⟩); intro i g tn hn hT hg hI; obtain ⟨le, q8, hno⟩ := hI; have q0 := hg 0 rfl; have q1 := hg 1 rfl; have q7 := hg 7 rfl; simp (disch := first | decide | omega | (simp only [nx]; first | done | omega)) only [go_sem] at q0 q1 q7; clear hg; have hn' := hn; try simp only [add_next, set_next, grow_next, leave_next, drop_next] at hn')
  by_cases hlt : i < l.length
  · have b1 : decide ((i : Int) < (l.length : Int)) = true := by simp; omega
    have w1 : IntKind.i64.wrap ((i : Int) + 1) = ((i + 1 : Nat) : Int) := IntWalk.i64_in _ ⟨by omega, by omega⟩
    (simp (disch := first | decide | omega | (simp only [nx]; first | done | omega)) only [go_sem, q0, q1, q7, q8, b1]; (repeat with_reducible refine aI ?_))
    refine DCalls.of_pure (notFine_d l[i] (hs _ (List.getElem_mem hlt))) ?_
    cases hf : fineB l[i]
    · (simp (disch := first | decide | omega | (simp only [nx]; first | done | omega)) only [go_sem, q0, q1, q7, q8, b1]; (repeat with_reducible refine aI ?_))
      refine ⟨?_, (by (repeat' first | assumption | exact St.Sub.refl _ | exact RowOk.sub (by assumption) (by assumption) | refine St.Sub.trans ?_ (RowOk.sub (by assumption) (by assumption)) | refine St.Sub.add ?_ ?_ _ | refine St.Sub.set ?_ ?_ ?_ _ | refine St.Sub.keep ?_ ?_ | refine St.WF.leave ?_ _ | refine St.WF.add ?_ _ | refine St.WF.set ?_ ?_ _ | refine St.WF.grow ?_ _ _ _ | refine St.WF.keep ?_ ?_ | (first | omega | (simp only [RowOk.lo, nx]; first | done | omega))))⟩
      have h1 : l.findIdx? (fun p => !fineB p) = some i := List.findIdx?_eq_some_iff_getElem.2 ⟨hlt, by simp [hf], fun j hj => by simp [hno j (by omega) hj]⟩
      rw [ixF, h1]; rfl
    · (simp (disch := first | decide | omega | (simp only [nx]; first | done | omega)) only [go_sem, q0, q1, q7, q8, b1, w1]; (repeat with_reducible refine aI ?_))
      (refine ⟨by omega, (by (repeat' first | assumption | exact St.Sub.refl _ | exact RowOk.sub (by assumption) (by assumption) | refine St.Sub.trans ?_ (RowOk.sub (by assumption) (by assumption)) | refine St.Sub.add ?_ ?_ _ | refine St.Sub.set ?_ ?_ ?_ _ | refine St.Sub.keep ?_ ?_ | refine St.WF.leave ?_ _ | refine St.WF.add ?_ _ | refine St.WF.set ?_ ?_ _ | refine St.WF.grow ?_ _ _ _ | refine St.WF.keep ?_ ?_ | (first | omega | (simp only [RowOk.lo, nx]; first | done | omega)))), ?_⟩; refine ⟨by omega, ?_, ?_⟩; all_goals (try (first | (simp (disch := first | decide | omega | (simp only [nx]; first | done | omega)) only [go_sem, w1]; first | done | rfl) | rfl)))
      intro j hj hji
      by_cases e : j = i
      · subst e; exact hf
      · exact hno j hj (by omega)
  · have b1 : decide ((i : Int) < (l.length : Int)) = false := by simp; omega
    (simp (disch := first | decide | omega | (simp only [nx]; first | done | omega)) only [go_sem, q0, q1, q7, q8, b1]; (repeat with_reducible refine aI ?_))
    refine ⟨?_, (by (repeat' first | assumption | exact St.Sub.refl _ | exact RowOk.sub (by assumption) (by assumption) | refine St.Sub.trans ?_ (RowOk.sub (by assumption) (by assumption)) | refine St.Sub.add ?_ ?_ _ | refine St.Sub.set ?_ ?_ ?_ _ | refine St.Sub.keep ?_ ?_ | refine St.WF.leave ?_ _ | refine St.WF.add ?_ _ | refine St.WF.set ?_ ?_ _ | refine St.WF.grow ?_ _ _ _ | refine St.WF.keep ?_ ?_ | (first | omega | (simp only [RowOk.lo, nx]; first | done | omega))))⟩
    have h1 : l.findIdx? (fun p => !fineB p) = none := List.findIdx?_eq_none_iff.2 fun x hx => by
      obtain ⟨j, hj, rfl⟩ := List.getElem_of_mem hx
      simp [hno j hj (by omega)]
    rw [ixF, h1]; rfl
theorem ixF_le (l : List DStp) : decide ((0 : Int) ≤ ixF l) = !l.all fineB := by
  unfold ixF
  split
  · rename_i i h
    obtain ⟨hi, h1, _⟩ := List.findIdx?_eq_some_iff_getElem.1 h
    rw [show l.all fineB = false from List.all_eq_false.2 ⟨l[i], List.getElem_mem hi, by simpa using h1⟩]
    simp
  · rename_i h
    have h1 := List.findIdx?_eq_none_iff.1 h
    rw [show l.all fineB = true from List.all_eq_true.2 fun x hx => by simpa using h1 x hx]
    rfl
set_option maxRecDepth 200000 in
set_option maxHeartbeats 8000000 in
theorem anyNot_d (own : Own) (l : List DStp) (hl : l.length ≤ 1000000) (hs : ∀ p ∈ l, p.1.length ≤ maxLen) : DPure Tryz.prog 78 [.sl own (l.map encP), .fn (.func 79) [] []] (.v (.bool (!l.all fineB))) := by
  refine dpure_of_dwp mixed Tryz.func78 rfl (fun _ _ => by kernel_rfl) (rs := [.tmp 4]) rfl (by kernel_rfl) trivial (fun S hS => ?_)
  (simp (disch := first | decide | omega | (simp only [nx]; first | done | omega)) only [go_sem]; (repeat with_reducible refine aI ?_))
  refine DCalls.of_pure (ixF_d own l hl hs) ?_
  (simp (disch := first | decide | omega | (simp only [nx]; first | done | omega)) only [go_sem]; (repeat with_reducible refine aI ?_))
  refine ⟨?_, (by (repeat' first | assumption | exact St.Sub.refl _ | exact RowOk.sub (by assumption) (by assumption) | refine St.Sub.trans ?_ (RowOk.sub (by assumption) (by assumption)) | refine St.Sub.add ?_ ?_ _ | refine St.Sub.set ?_ ?_ ?_ _ | refine St.Sub.keep ?_ ?_ | refine St.WF.leave ?_ _ | refine St.WF.add ?_ _ | refine St.WF.set ?_ ?_ _ | refine St.WF.grow ?_ _ _ _ | refine St.WF.keep ?_ ?_ | (first | omega | (simp only [RowOk.lo, nx]; first | done | omega))))⟩
  rw [ixF_le]; rfl
def rightP (l : List DStp) : Bool := decide (l.length ≤ 8) && l.all fineB
set_option maxRecDepth 200000 in
set_option maxHeartbeats 8000000 in
theorem pathRight_d (own : Own) (l : List DStp) (hl : l.length ≤ 1000000) (hs : ∀ p ∈ l, p.1.length ≤ maxLen) : DPure Tryz.prog 46 [.sl own (l.map encP)] (.v (.bool (rightP l))) := by
  refine dpure_of_dwp mixed Tryz.func46 rfl (fun _ _ => by kernel_rfl) (rs := [.tmp 2]) rfl (by kernel_rfl) trivial (fun S hS => ?_)
  by_cases h8 : l.length ≤ 8
  · have b1 : decide ((l.length : Int) ≤ 8) = true := by simp; omega
    (simp (disch := first | decide | omega | (simp only [nx]; first | done | omega)) only [go_sem, b1]; (repeat with_reducible refine aI ?_))
    refine DCalls.of_pure (anyNot_d own l hl hs) ?_
    (simp (disch := first | decide | omega | (simp only [nx]; first | done | omega)) only [go_sem]; (repeat with_reducible refine aI ?_))
    refine ⟨?_, (by (repeat' first | assumption | exact St.Sub.refl _ | exact RowOk.sub (by assumption) (by assumption) | refine St.Sub.trans ?_ (RowOk.sub (by assumption) (by assumption)) | refine St.Sub.add ?_ ?_ _ | refine St.Sub.set ?_ ?_ ?_ _ | refine St.Sub.keep ?_ ?_ | refine St.WF.leave ?_ _ | refine St.WF.add ?_ _ | refine St.WF.set ?_ ?_ _ | refine St.WF.grow ?_ _ _ _ | refine St.WF.keep ?_ ?_ | (first | omega | (simp only [RowOk.lo, nx]; first | done | omega))))⟩
    rw [rightP, decide_eq_true h8]; simp [D.frz]
  · have b1 : decide ((l.length : Int) ≤ 8) = false := by simp; omega
    (simp (disch := first | decide | omega | (simp only [nx]; first | done | omega)) only [go_sem, b1]; (repeat with_reducible refine aI ?_))
    refine ⟨?_, (by (repeat' first | assumption | exact St.Sub.refl _ | exact RowOk.sub (by assumption) (by assumption) | refine St.Sub.trans ?_ (RowOk.sub (by assumption) (by assumption)) | refine St.Sub.add ?_ ?_ _ | refine St.Sub.set ?_ ?_ ?_ _ | refine St.Sub.keep ?_ ?_ | refine St.WF.leave ?_ _ | refine St.WF.add ?_ _ | refine St.WF.set ?_ ?_ _ | refine St.WF.grow ?_ _ _ _ | refine St.WF.keep ?_ ?_ | (first | omega | (simp only [RowOk.lo, nx]; first | done | omega))))⟩
    rw [rightP, decide_eq_false h8]; rfl
set_option maxRecDepth 200000 in
set_option maxHeartbeats 8000000 in
theorem refRight_d (own : Own) (l : List DStp) (hl : l.length ≤ 1000000) (hs : ∀ p ∈ l, p.1.length ≤ maxLen) : DPure Tryz.prog 49 [.sl own (l.map encP)] (.v (.bool (rightP l))) := by
  refine dpure_of_dwp mixed Tryz.func49 rfl (fun _ _ => by kernel_rfl) (rs := [.tmp 2]) rfl (by kernel_rfl) trivial (fun S hS => ?_)
  (simp (disch := first | decide | omega | (simp only [nx]; first | done | omega)) only [go_sem]; (repeat with_reducible refine aI ?_))
  (refine dloop_st (fun t => List.contains [2, 3, 4, 5, 6, 7, 8, 9, 10, 11, 12, 13, 14, 15, 16, 17, 18, 19, 20, 21, 22, 23, 24, 25, 26, 27, 28, 29, 30, 31, 32, 33, 34, 35, 36, 37, 38, 39, 40, 41, 42, 43, 44, 45] t) (by kernel_rfl) ?_ (l.length) (fun i f => i ≤ l.length ∧ f 3 = .v (.int .i64 (i : Nat)) ∧ (∀ j (hj : j < l.length), j < i → fineB l[j] = true)) ?_ ?_; (exact (by (repeat' first | assumption | refine St.WF.leave ?_ _ | refine St.WF.add ?_ _ | refine St.WF.set ?_ ?_ _ | refine St.WF.grow ?_ _ _ _ | refine St.WF.keep ?_ ?_ | (first | omega | (simp only [RowOk.lo, nx]; first | done | omega))))); (exact ⟨(by omega), (by (first | (simp (disch := first | decide | omega | (simp only [nx]; first | done | omega)) only [go_sem]; first | done | rfl) | rfl)), (fun j _ hj => by omega)⟩); intro i g tn hn hT hg hI; obtain ⟨le, q3, hno⟩ := hI; have q0 := hg 0 rfl; simp (disch := first | decide | omega | (simp only [nx]; first | done | omega)) only [go_sem] at q0; clear hg; have hn' := hn; try simp only [add_next, set_next, grow_next, leave_next, drop_next] at hn')
  by_cases hlt : i < l.length
  · have b1 : decide ((i : Int) < (l.length : Int)) = true := by simp; omega
    have w1 : IntKind.i64.wrap ((i : Int) + 1) = ((i + 1 : Nat) : Int) := IntWalk.i64_in _ ⟨by omega, by omega⟩
    (simp (disch := first | decide | omega | (simp only [nx]; first | done | omega)) only [go_sem, q0, q3, b1, encP]; (repeat with_reducible refine aI ?_))
    refine DCalls.of_pure (refName_d l[i].1 (hs _ (List.getElem_mem hlt))) ?_
    cases hn : nameB l[i].1 <;> cases hz : ((l[i].2 : Int) == 0) <;> cases he : (l[i].1 == [])
    all_goals have hz' : ((l[i].2 : Int) != 0) = !((l[i].2 : Int) == 0) := rfl
    all_goals rw [hz] at hz'
    all_goals have hf : fineB l[i] = ((nameB l[i].1 && ((l[i].2 : Int) == 0)) || (l[i].1 == [] && !((l[i].2 : Int) == 0))) := rfl
    all_goals rw [hn, hz, he] at hf
    all_goals (simp (disch := first | decide | omega | (simp only [nx]; first | done | omega)) only [go_sem, q0, q3, b1, encP, hz, hz', he, w1]; (repeat with_reducible refine aI ?_))
    all_goals first
      | (refine ⟨?_, (by (repeat' first | assumption | exact St.Sub.refl _ | exact RowOk.sub (by assumption) (by assumption) | refine St.Sub.trans ?_ (RowOk.sub (by assumption) (by assumption)) | refine St.Sub.add ?_ ?_ _ | refine St.Sub.set ?_ ?_ ?_ _ | refine St.Sub.keep ?_ ?_ | refine St.WF.leave ?_ _ | refine St.WF.add ?_ _ | refine St.WF.set ?_ ?_ _ | refine St.WF.grow ?_ _ _ _ | refine St.WF.keep ?_ ?_ | (first | omega | (simp only [RowOk.lo, nx]; first | done | omega))))⟩; have h0 : l.all fineB = false := List.all_eq_false.2 ⟨l[i], List.getElem_mem hlt, by rw [hf]; decide⟩; rw [rightP, h0, Bool.and_false]; rfl)
      | ((refine ⟨by omega, (by (repeat' first | assumption | exact St.Sub.refl _ | exact RowOk.sub (by assumption) (by assumption) | refine St.Sub.trans ?_ (RowOk.sub (by assumption) (by assumption)) | refine St.Sub.add ?_ ?_ _ | refine St.Sub.set ?_ ?_ ?_ _ | refine St.Sub.keep ?_ ?_ | refine St.WF.leave ?_ _ | refine St.WF.add ?_ _ | refine St.WF.set ?_ ?_ _ | refine St.WF.grow ?_ _ _ _ | refine St.WF.keep ?_ ?_ | (first | omega | (simp only [RowOk.lo, nx]; first | done | omega)))), ?_⟩; refine ⟨by omega, ?_, ?_⟩; all_goals (try (first | (simp (disch := first | decide | omega | (simp only [nx]; first | done | omega)) only [go_sem, w1]; first | done | rfl) | rfl))); intro j hj hji; by_cases e : j = i; (subst e; exact hf); exact hno j hj (by omega))
  · have b1 : decide ((i : Int) < (l.length : Int)) = false := by simp; omega
    (simp (disch := first | decide | omega | (simp only [nx]; first | done | omega)) only [go_sem, q0, q3, b1]; (repeat with_reducible refine aI ?_))
    refine ⟨?_, (by (repeat' first | assumption | exact St.Sub.refl _ | exact RowOk.sub (by assumption) (by assumption) | refine St.Sub.trans ?_ (RowOk.sub (by assumption) (by assumption)) | refine St.Sub.add ?_ ?_ _ | refine St.Sub.set ?_ ?_ ?_ _ | refine St.Sub.keep ?_ ?_ | refine St.WF.leave ?_ _ | refine St.WF.add ?_ _ | refine St.WF.set ?_ ?_ _ | refine St.WF.grow ?_ _ _ _ | refine St.WF.keep ?_ ?_ | (first | omega | (simp only [RowOk.lo, nx]; first | done | omega))))⟩
    have : l.all fineB = true := List.all_eq_true.2 fun x hx => by
      obtain ⟨j, hj, rfl⟩ := List.getElem_of_mem hx
      exact hno j hj (by omega)
    have h8 : decide ((l.length : Int) ≤ 8) = decide (l.length ≤ 8) := by rw [decide_eq_decide]; omega
    rw [rightP, this, Bool.and_true, ← h8]; rfl
end Go.Proofs.YtjjhjhjphhpeiaaGreatDoor

namespace Go.Proofs.YtjjhjhjphhpeiaaGreatDoor
open Go.RowKit
attribute [go_sem] sv_beq
def zeroS : DSch := .mk 0 [] []
theorem schCopy_d (s : DSch) (hok : okS s) (hw : s.weight ≤ 1000000) : DPure Tryz.prog 86 [encS s] (encS s) := fun S _ η w vs hM hr => by
  obtain ⟨cs, rfl, hv⟩ := arg_sch hok hr
  exact .inl ⟨by kernel_rfl, (schCopy_calls s.depth s cs w (Nat.le_refl _) hw hv).mono fun _ w' ⟨cs, he, hv, hb⟩ => ⟨encS s, _, η, .agg cs.toArray, ⟨rfl, rfl⟩, he, rep_sch (F := fun b => w.heap.size ≤ b ∧ b < w'.heap.size) (fun b i hF k o h1 _ => by have := (hM.in_ k b h1).2; omega) hv, goes_below hM hb⟩⟩
def wholeS (s : DSch) : Bool := decide (s.kind = 5) && decide (s.words.length ≤ s.parts.length)
set_option maxRecDepth 200000 in
set_option maxHeartbeats 4000000 in
theorem wholeS_d (s : DSch) : DPure Tryz.prog 130 [encS s] (.v (.bool (wholeS s))) := by
  refine dpure_of_dwp mixed Tryz.func130 rfl (fun _ _ => by kernel_rfl) (rs := [.tmp 2]) rfl (by kernel_rfl) trivial (fun S hS => ?_)
  by_cases h5 : s.kind = 5
  · have b5 : (s.kind == 5) = true := by simp [h5]
    (simp (disch := first | decide | omega | (simp only [nx]; first | done | omega)) only [go_sem, encS_eq s, b5]; (repeat with_reducible refine aI ?_))
    refine ⟨?_, (by (repeat' first | assumption | exact St.Sub.refl _ | exact RowOk.sub (by assumption) (by assumption) | refine St.Sub.trans ?_ (RowOk.sub (by assumption) (by assumption)) | refine St.Sub.add ?_ ?_ _ | refine St.Sub.set ?_ ?_ ?_ _ | refine St.Sub.keep ?_ ?_ | refine St.WF.leave ?_ _ | refine St.WF.add ?_ _ | refine St.WF.set ?_ ?_ _ | refine St.WF.grow ?_ _ _ _ | refine St.WF.keep ?_ ?_ | (first | omega | (simp only [RowOk.lo, nx]; first | done | omega))))⟩
    simp only [D.frz, wholeS, decide_eq_true h5, Bool.true_and]
    congr 3
    exact propext ⟨fun h => by omega, fun h => by omega⟩
  · have b5 : (s.kind == 5) = false := by simp [h5]
    (simp (disch := first | decide | omega | (simp only [nx]; first | done | omega)) only [go_sem, encS_eq s, b5]; (repeat with_reducible refine aI ?_))
    refine ⟨?_, (by (repeat' first | assumption | exact St.Sub.refl _ | exact RowOk.sub (by assumption) (by assumption) | refine St.Sub.trans ?_ (RowOk.sub (by assumption) (by assumption)) | refine St.Sub.add ?_ ?_ _ | refine St.Sub.set ?_ ?_ ?_ _ | refine St.Sub.keep ?_ ?_ | refine St.WF.leave ?_ _ | refine St.WF.add ?_ _ | refine St.WF.set ?_ ?_ _ | refine St.WF.grow ?_ _ _ _ | refine St.WF.keep ?_ ?_ | (first | omega | (simp only [RowOk.lo, nx]; first | done | omega))))⟩
    simp only [D.frz, wholeS, decide_eq_false h5, Bool.false_and]
def fieldS (s : DSch) (x : Str) : Option DSch := if wholeS s = true ∧ x ∈ s.words then some (s.parts.getD (ixN s.words x) default) else none
def tupS (o : Option DSch) : D := .tup [encS (o.getD zeroS), .v (.bool o.isSome)]
theorem tupS_closed (o : Option DSch) : (tupS o).closed := by
  simp only [tupS, D.closed, D.all, allL, and_true]; exact closed_encS _
theorem frz_tupS (s : DSch) (b : Bool) : (D.tup [encS s, .v (.bool b)]).frz = .tup [encS s, .v (.bool b)] := by simp only [D.frz, frzL, frz_encS]
theorem fieldS_cases {s : DSch} {x : Str} (h : wholeS s = true) (hm : x ∈ s.words) : ∃ hpl : ixN s.words x < s.parts.length, fieldS s x = some s.parts[ixN s.words x] := by
  have h1 := ix_lt hm
  have hpl : ixN s.words x < s.parts.length := by
    simp only [wholeS, Bool.and_eq_true, decide_eq_true_eq] at h
    omega
  exact ⟨hpl, by rw [fieldS, if_pos ⟨h, hm⟩, getD_at hpl]⟩
set_option maxRecDepth 200000 in
set_option maxHeartbeats 4000000 in
theorem fieldS_d (s : DSch) (x : Str) (hok : okS s) (hw : s.weight ≤ 1000000) : DPure Tryz.prog 85 [encS s, .v (sv x)] (tupS (fieldS s x)) := by
  obtain ⟨o1, o2, o3, o4, o5⟩ := (okS_eq s).1 hok
  refine dpure_of_dwp mixed Tryz.func85 rfl (fun _ _ => by kernel_rfl) (rs := [.cell 4 25, .tmp 5]) rfl (by kernel_rfl) (tupS_closed _) (fun S hS => ?_)
  have ec := encS_eq s
  (simp (disch := first | decide | omega | (simp only [nx]; first | done | omega)) only [go_sem]; (repeat with_reducible refine aI ?_))
  refine DCalls.of_pure (strIndex_d .no s.words x o3) ?_
  (simp (disch := first | decide | omega | (simp only [nx]; first | done | omega)) only [go_sem]; (repeat with_reducible refine aI ?_))
  refine DCalls.of_pure (wholeS_d s) ?_
  cases hwb : wholeS s with
  | true =>
    by_cases hm : x ∈ s.words
    · have b7 : decide (ixI s.words x < 0) = false := by unfold ixI; rw [if_pos hm]; simp
      obtain ⟨hpl, hf⟩ := fieldS_cases hwb hm
      have hi : ixI s.words x = (ixN s.words x : Int) := by unfold ixI; rw [if_pos hm]
      have b8 : decide ((ixN s.words x : Int) < 0) = false := by simp
      (simp (disch := first | decide | omega | (simp only [nx]; first | done | omega)) only [go_sem, hi, b8]; (repeat with_reducible refine aI ?_))
      refine DCalls.of_pure (schCopy_d s.parts[ixN s.words x] (o5 _ (List.getElem_mem hpl)) (by have := DSch.weight_part (List.getElem_mem hpl); omega)) ?_
      (simp (disch := first | decide | omega | (simp only [nx]; first | done | omega)) only [go_sem]; (repeat with_reducible refine aI ?_))
      refine ⟨?_, (by (repeat' first | assumption | exact St.Sub.refl _ | exact RowOk.sub (by assumption) (by assumption) | refine St.Sub.trans ?_ (RowOk.sub (by assumption) (by assumption)) | refine St.Sub.add ?_ ?_ _ | refine St.Sub.set ?_ ?_ ?_ _ | refine St.Sub.keep ?_ ?_ | refine St.WF.leave ?_ _ | refine St.WF.add ?_ _ | refine St.WF.set ?_ ?_ _ | refine St.WF.grow ?_ _ _ _ | refine St.WF.keep ?_ ?_ | (first | omega | (simp only [RowOk.lo, nx]; first | done | omega))))⟩
      rw [frz_tupS, hf]
      rfl
    · have b7 : decide (ixI s.words x < 0) = true := by unfold ixI; rw [if_neg hm]; decide
      (simp (disch := first | decide | omega | (simp only [nx]; first | done | omega)) only [go_sem, b7]; (repeat with_reducible refine aI ?_))
      refine ⟨?_, (by (repeat' first | assumption | exact St.Sub.refl _ | exact RowOk.sub (by assumption) (by assumption) | refine St.Sub.trans ?_ (RowOk.sub (by assumption) (by assumption)) | refine St.Sub.add ?_ ?_ _ | refine St.Sub.set ?_ ?_ ?_ _ | refine St.Sub.keep ?_ ?_ | refine St.WF.leave ?_ _ | refine St.WF.add ?_ _ | refine St.WF.set ?_ ?_ _ | refine St.WF.grow ?_ _ _ _ | refine St.WF.keep ?_ ?_ | (first | omega | (simp only [RowOk.lo, nx]; first | done | omega))))⟩
      rw [fieldS, if_neg (fun h => hm h.2)]
      rfl
  | false =>
    (simp (disch := first | decide | omega | (simp only [nx]; first | done | omega)) only [go_sem]; (repeat with_reducible refine aI ?_))
    refine ⟨?_, (by (repeat' first | assumption | exact St.Sub.refl _ | exact RowOk.sub (by assumption) (by assumption) | refine St.Sub.trans ?_ (RowOk.sub (by assumption) (by assumption)) | refine St.Sub.add ?_ ?_ _ | refine St.Sub.set ?_ ?_ ?_ _ | refine St.Sub.keep ?_ ?_ | refine St.WF.leave ?_ _ | refine St.WF.add ?_ _ | refine St.WF.set ?_ ?_ _ | refine St.WF.grow ?_ _ _ _ | refine St.WF.keep ?_ ?_ | (first | omega | (simp only [RowOk.lo, nx]; first | done | omega))))⟩
    rw [fieldS, if_neg (fun h => by rw [h.1] at hwb; cases hwb)]
    rfl
end Go.Proofs.YtjjhjhjphhpeiaaGreatDoor

namespace Go.Proofs.YtjjhjhjphhpeiaaGreatDoor
open Go.RowKit
def typS : List DStp → DSch → Option DSch
  | [], s => some s
  | p :: ps, s => if p.1 = [] then (if s.kind = 6 ∧ p.2 ≠ 0 ∧ 0 < s.parts.length then typS ps (s.parts.getD 0 default) else none) else match fieldS s p.1 with
    | some t => typS ps t
    | none => none
def stepT (s : DSch) (p : DStp) : Option DSch := if p.1 = [] then (if s.kind = 6 ∧ p.2 ≠ 0 ∧ 0 < s.parts.length then some (s.parts.getD 0 default) else none) else fieldS s p.1
theorem typS_cons (p : DStp) (ps : List DStp) (s : DSch) : typS (p :: ps) s = (stepT s p).bind (typS ps) := by
  rw [typS, stepT]
  split
  · split <;> rfl
  · cases fieldS s p.1 <;> rfl
theorem typS_app : ∀ (ps qs : List DStp) (s : DSch), typS (ps ++ qs) s = (typS ps s).bind (typS qs)
  | [], qs, s => rfl
  | p :: ps, qs, s => by
    rw [List.cons_append, typS_cons, typS_cons, Option.bind_assoc]
    congr 1
    funext t
    exact typS_app ps qs t
def typA (ps : List DStp) (s : DSch) (i : Nat) : DSch := (typS (ps.take i) s).getD zeroS
theorem typA_succ {ps : List DStp} {s : DSch} {i : Nat} (hi : i < ps.length) (h : (typS (ps.take i) s).isSome = true) : typS (ps.take (i + 1)) s = stepT (typA ps s i) ps[i] := by
  rw [List.take_succ_eq_append_getElem hi, typS_app]
  obtain ⟨t, ht⟩ := Option.isSome_iff_exists.1 h
  rw [typA, ht]
  show typS [ps[i]] t = stepT t ps[i]
  rw [typS_cons]
  cases stepT t ps[i] <;> rfl
theorem typS_none {ps : List DStp} {s : DSch} {i : Nat} (h : typS (ps.take i) s = none) : typS ps s = none := by
  have := typS_app (ps.take i) (ps.drop i) s
  rw [List.take_append_drop] at this
  rw [this, h]; rfl
theorem fieldS_mem {s t : DSch} {x : Str} (h : fieldS s x = some t) : t ∈ s.parts := by
  by_cases hc : wholeS s = true ∧ x ∈ s.words
  · obtain ⟨hpl, hf⟩ := fieldS_cases hc.1 hc.2
    rw [hf] at h
    injection h with h
    rw [← h]; exact List.getElem_mem hpl
  · rw [fieldS, if_neg hc] at h; cases h
theorem stepT_mem {s t : DSch} {p : DStp} (h : stepT s p = some t) : t ∈ s.parts := by
  unfold stepT at h
  split at h
  · split at h
    · rename_i hc
      injection h with h
      rw [← h, getD_at hc.2.2]; exact List.getElem_mem _
    · cases h
  · exact fieldS_mem h
theorem typS_fine : ∀ (ps : List DStp) {s t : DSch}, typS ps s = some t → okS s → s.weight ≤ 1000000 → okS t ∧ t.weight ≤ 1000000
  | [], s, t, h, ho, hw => by injection h with h; subst h; exact ⟨ho, hw⟩
  | p :: ps, s, t, h, ho, hw => by
    rw [typS_cons] at h
    cases hs : stepT s p with
    | none => rw [hs] at h; cases h
    | some u =>
      rw [hs] at h
      have hm := stepT_mem hs
      exact typS_fine ps h (((okS_eq s).1 ho).2.2.2.2 u hm) (by have := DSch.weight_part hm; omega)
set_option maxRecDepth 200000 in
set_option maxHeartbeats 8000000 in
theorem type_d (s : DSch) (ps : List DStp) (own : Own) (hok : okS s) (hw : s.weight ≤ 1000000) (hl : ps.length ≤ 1000000) : DPure Tryz.prog 51 [encS s, .sl own (ps.map encP)] (tupS (typS ps s)) := by
  refine dpure_of_dwp mixed Tryz.func51 rfl (fun _ _ => by kernel_rfl) (rs := [.cell 4 25, .tmp 5]) rfl (by kernel_rfl) (tupS_closed _) (fun S hS => ?_)
  (simp (disch := first | decide | omega | (simp only [nx]; first | done | omega)) only [go_sem]; (repeat with_reducible refine aI ?_))
  (refine dloop_var (fun t => List.contains [5, 7, 8, 9, 12, 13, 14, 15, 16, 17, 18, 19, 20, 21, 22, 23, 24, 25, 26, 27, 28, 29, 30, 31, 32, 33, 34, 35, 36, 37, 38, 39, 40, 41, 42, 43, 44, 45, 46, 47, 48, 49, 50, 51] t) (by kernel_rfl) ?_ (ps.length) (S.next) (fun i => .box 25 (encS (typA ps s i)).cells) ?_ (fun i f => i ≤ ps.length ∧ f 12 = .v (.int .i64 (i : Nat)) ∧ ((typS (ps.take i) s).isSome = true)) ?_ ?_; (exact (by (repeat' first | assumption | refine St.WF.leave ?_ _ | refine St.WF.add ?_ _ | refine St.WF.set ?_ ?_ _ | refine St.WF.grow ?_ _ _ _ | refine St.WF.keep ?_ ?_ | (first | omega | (simp only [RowOk.lo, nx]; first | done | omega))))); (exact (by (first | (simp (disch := first | decide | omega | (simp only [nx]; first | done | omega)) only [go_sem]; first | done | rfl) | rfl))); (exact ⟨(by omega), (by (first | (simp (disch := first | decide | omega | (simp only [nx]; first | done | omega)) only [go_sem]; first | done | rfl) | rfl)), (rfl)⟩); intro i g tn hn hT hg hI; obtain ⟨le, q12, hs⟩ := hI; have q2 := hg 2 rfl; have q4 := hg 4 rfl; have q10 := hg 10 rfl; have q11 := hg 11 rfl; simp (disch := first | decide | omega | (simp only [nx]; first | done | omega)) only [go_sem] at q2 q4 q10 q11; clear hg; have hn' := hn; try simp only [add_next, set_next, grow_next, leave_next, drop_next] at hn')
  obtain ⟨t, ht⟩ := Option.isSome_iff_exists.1 hs
  have hta : typA ps s i = t := by rw [typA, ht]; rfl
  have hnx0 := fun h => typA_succ (i := i) (ps := ps) (s := s) h hs
  obtain ⟨hto, htw⟩ := typS_fine _ ht hok hw
  rw [hta] at hnx0 hT
  rw [hta]
  by_cases hlt : i < ps.length
  · have b1 : decide ((i : Int) < (ps.length : Int)) = true := by simp; omega
    have w1 : IntKind.i64.wrap ((i : Int) + 1) = ((i + 1 : Nat) : Int) := IntWalk.i64_in _ ⟨by omega, by omega⟩
    have hnx := hnx0 hlt
    have hts := (okS_eq t).1 hto
    by_cases h0 : ps[i].1 = []
    · have b2 : (!(ps[i].1 == [])) = false := by simp [h0]
      by_cases h6 : t.kind = 6
      · have b3 : (t.kind == 6) = true := by simp [h6]
        by_cases hz : ps[i].2 = 0
        · have b4 : ((ps[i].2 : Int) != 0) = false := by simp [hz]
          (simp (disch := first | decide | omega | (simp only [nx]; first | done | omega)) only [go_sem, q10, q11, q12, q2, q4, b1, b2, b3, b4]; (repeat with_reducible refine aI ?_))
          have hn : typS ps s = none := typS_none (i := i + 1) (by rw [hnx, stepT, if_pos h0, if_neg (by omega)])
          refine ⟨?_, (by (repeat' first | assumption | exact St.Sub.refl _ | exact RowOk.sub (by assumption) (by assumption) | refine St.Sub.trans ?_ (RowOk.sub (by assumption) (by assumption)) | refine St.Sub.add ?_ ?_ _ | refine St.Sub.set ?_ ?_ ?_ _ | refine St.Sub.keep ?_ ?_ | refine St.WF.leave ?_ _ | refine St.WF.add ?_ _ | refine St.WF.set ?_ ?_ _ | refine St.WF.grow ?_ _ _ _ | refine St.WF.keep ?_ ?_ | (first | omega | (simp only [RowOk.lo, nx]; first | done | omega))))⟩
          rw [hn]; rfl
        · have b4 : ((ps[i].2 : Int) != 0) = true := by simp; omega
          by_cases hp : 0 < t.parts.length
          · have b5 : decide ((0 : Int) < (t.parts.length : Int)) = true := by simp; omega
            (simp (disch := first | decide | omega | (simp only [nx]; first | done | omega)) only [go_sem, q10, q11, q12, q2, q4, b1, b2, b3, b4, b5, w1]; (repeat with_reducible refine aI ?_))
            have hs1 : typS (ps.take (i + 1)) s = some t.parts[0] := by rw [hnx, stepT, if_pos h0, if_pos ⟨h6, hz, hp⟩, getD_at hp]
            have hta1 : typA ps s (i + 1) = t.parts[0] := by rw [typA, hs1]; rfl
            (refine ⟨by omega, St.Sub.upd hn (by simp only [hta1]) (by (repeat' first | assumption | exact St.Sub.refl _ | exact RowOk.sub (by assumption) (by assumption) | refine St.Sub.trans ?_ (RowOk.sub (by assumption) (by assumption)) | refine St.Sub.add ?_ ?_ _ | refine St.Sub.set ?_ ?_ ?_ _ | refine St.Sub.keep ?_ ?_ | refine St.WF.leave ?_ _ | refine St.WF.add ?_ _ | refine St.WF.set ?_ ?_ _ | refine St.WF.grow ?_ _ _ _ | refine St.WF.keep ?_ ?_ | (first | omega | (simp only [RowOk.lo, nx]; first | done | omega)))), ?_⟩; refine ⟨by omega, ?_, ?_⟩; all_goals (try (first | (simp (disch := first | decide | omega | (simp only [nx]; first | done | omega)) only [go_sem, w1]; first | done | rfl) | rfl)))
            rw [hs1]; rfl
          · have b5 : decide ((0 : Int) < (t.parts.length : Int)) = false := decide_eq_false (by omega)
            (simp (disch := first | decide | omega | (simp only [nx]; first | done | omega)) only [go_sem, q10, q11, q12, q2, q4, b1, b2, b3, b4, b5]; (repeat with_reducible refine aI ?_))
            have hn : typS ps s = none := typS_none (i := i + 1) (by rw [hnx, stepT, if_pos h0, if_neg (by omega)])
            refine ⟨?_, (by (repeat' first | assumption | exact St.Sub.refl _ | exact RowOk.sub (by assumption) (by assumption) | refine St.Sub.trans ?_ (RowOk.sub (by assumption) (by assumption)) | refine St.Sub.add ?_ ?_ _ | refine St.Sub.set ?_ ?_ ?_ _ | refine St.Sub.keep ?_ ?_ | refine St.WF.leave ?_ _ | refine St.WF.add ?_ _ | refine St.WF.set ?_ ?_ _ | refine St.WF.grow ?_ _ _ _ | refine St.WF.keep ?_ ?_ | (first | omega | (simp only [RowOk.lo, nx]; first | done | omega))))⟩
            rw [hn]; rfl
      · have b3 : (t.kind == 6) = false := by simp [h6]
        (simp (disch := first | decide | omega | (simp only [nx]; first | done | omega)) only [go_sem, q10, q11, q12, q2, q4, b1, b2, b3]; (repeat with_reducible refine aI ?_))
        have hn : typS ps s = none := typS_none (i := i + 1) (by rw [hnx, stepT, if_pos h0, if_neg (by omega)])
        refine ⟨?_, (by (repeat' first | assumption | exact St.Sub.refl _ | exact RowOk.sub (by assumption) (by assumption) | refine St.Sub.trans ?_ (RowOk.sub (by assumption) (by assumption)) | refine St.Sub.add ?_ ?_ _ | refine St.Sub.set ?_ ?_ ?_ _ | refine St.Sub.keep ?_ ?_ | refine St.WF.leave ?_ _ | refine St.WF.add ?_ _ | refine St.WF.set ?_ ?_ _ | refine St.WF.grow ?_ _ _ _ | refine St.WF.keep ?_ ?_ | (first | omega | (simp only [RowOk.lo, nx]; first | done | omega))))⟩
        rw [hn]; rfl
    · have b2 : (!(ps[i].1 == [])) = true := by simp [h0]
      (simp (disch := first | decide | omega | (simp only [nx]; first | done | omega)) only [go_sem, q10, q11, q12, q2, q4, b1, b2]; (repeat with_reducible refine aI ?_))
      refine DCalls.of_pure (fieldS_d t ps[i].1 hto htw) ?_
      have hst : stepT t ps[i] = fieldS t ps[i].1 := by rw [stepT, if_neg h0]
      cases hf : fieldS t ps[i].1 with
      | none =>
        have hn : typS ps s = none := typS_none (i := i + 1) (by rw [hnx, hst, hf])
        (simp (disch := first | decide | omega | (simp only [nx]; first | done | omega)) only [go_sem, tupS, hf, Option.isSome_none, q4]; (repeat with_reducible refine aI ?_))
        refine ⟨?_, (by (repeat' first | assumption | exact St.Sub.refl _ | exact RowOk.sub (by assumption) (by assumption) | refine St.Sub.trans ?_ (RowOk.sub (by assumption) (by assumption)) | refine St.Sub.add ?_ ?_ _ | refine St.Sub.set ?_ ?_ ?_ _ | refine St.Sub.keep ?_ ?_ | refine St.WF.leave ?_ _ | refine St.WF.add ?_ _ | refine St.WF.set ?_ ?_ _ | refine St.WF.grow ?_ _ _ _ | refine St.WF.keep ?_ ?_ | (first | omega | (simp only [RowOk.lo, nx]; first | done | omega))))⟩
        rw [hn]; rfl
      | some u =>
        have hs1 : typS (ps.take (i + 1)) s = some u := by rw [hnx, hst, hf]
        have hta1 : typA ps s (i + 1) = u := by rw [typA, hs1]; rfl
        (simp (disch := first | decide | omega | (simp only [nx]; first | done | omega)) only [go_sem, tupS, hf, Option.isSome_some, Option.getD_some, q12, q2, q4, w1]; (repeat with_reducible refine aI ?_))
        (refine ⟨by omega, St.Sub.upd hn (by simp only [hta1]) (by (repeat' first | assumption | exact St.Sub.refl _ | exact RowOk.sub (by assumption) (by assumption) | refine St.Sub.trans ?_ (RowOk.sub (by assumption) (by assumption)) | refine St.Sub.add ?_ ?_ _ | refine St.Sub.set ?_ ?_ ?_ _ | refine St.Sub.keep ?_ ?_ | refine St.WF.leave ?_ _ | refine St.WF.add ?_ _ | refine St.WF.set ?_ ?_ _ | refine St.WF.grow ?_ _ _ _ | refine St.WF.keep ?_ ?_ | (first | omega | (simp only [RowOk.lo, nx]; first | done | omega)))), ?_⟩; refine ⟨by omega, ?_, ?_⟩; all_goals (try (first | (simp (disch := first | decide | omega | (simp only [nx]; first | done | omega)) only [go_sem, w1]; first | done | rfl) | rfl)))
        rw [hs1]; rfl
  · have b1 : decide ((i : Int) < (ps.length : Int)) = false := by simp; omega
    (simp (disch := first | decide | omega | (simp only [nx]; first | done | omega)) only [go_sem, q10, q11, q12, q2, q4, b1]; (repeat with_reducible refine aI ?_))
    refine DCalls.of_pure (schCopy_d t hto htw) ?_
    (simp (disch := first | decide | omega | (simp only [nx]; first | done | omega)) only [go_sem, q4]; (repeat with_reducible refine aI ?_))
    refine ⟨?_, (by (repeat' first | assumption | exact St.Sub.refl _ | exact RowOk.sub (by assumption) (by assumption) | refine St.Sub.trans ?_ (RowOk.sub (by assumption) (by assumption)) | refine St.Sub.add ?_ ?_ _ | refine St.Sub.set ?_ ?_ ?_ _ | refine St.Sub.keep ?_ ?_ | refine St.WF.leave ?_ _ | refine St.WF.add ?_ _ | refine St.WF.set ?_ ?_ _ | refine St.WF.grow ?_ _ _ _ | refine St.WF.keep ?_ ?_ | (first | omega | (simp only [RowOk.lo, nx]; first | done | omega))))⟩
    rw [frz_tupS, show ps.take i = ps from List.take_of_length_le (by omega)] at *
    rw [ht]; rfl
end Go.Proofs.YtjjhjhjphhpeiaaGreatDoor

namespace Go.Proofs.YtjjhjhjphhpeiaaGreatDoor
open Go.RowKit
inductive GV : DVal → DSch → Prop
  | mk {v : DVal} {s : DSch} (h1 : hereV v = true) (h2 : headF v s = true) (h3 : ∀ i, i < v.parts.length → atF s i < s.parts.length) (h4 : ∀ i, (hi : i < v.parts.length) → GV v.parts[i] (s.parts.getD (atF s i) default)) : GV v s
theorem GV.here_ {v : DVal} {s : DSch} (h : GV v s) : hereV v = true := by cases h; assumption
theorem GV.head {v : DVal} {s : DSch} (h : GV v s) : headF v s = true := by cases h; assumption
theorem GV.at_ {v : DVal} {s : DSch} (h : GV v s) {i : Nat} (hi : i < v.parts.length) : atF s i < s.parts.length := by cases h; rename_i h3 h4; exact h3 i hi
theorem GV.part {v : DVal} {s : DSch} (h : GV v s) {i : Nat} (hi : i < v.parts.length) : GV v.parts[i] (s.parts.getD (atF s i) default) := by cases h; rename_i h3 h4; exact h4 i hi
theorem GV.depth : ∀ (k : Nat) {v : DVal} {s : DSch}, s.depth ≤ k → GV v s → v.depth ≤ s.depth
  | 0, v, s, hk, h => by have := s.depth_pos; omega
  | k + 1, v, s, hk, h => by
    rw [v.depth_eq]
    have hs := s.depth_pos
    have : DVal.depths v.parts ≤ s.depth - 1 := (depthsV_all _ _).2 fun p hp => by
      obtain ⟨i, hi, rfl⟩ := List.getElem_of_mem hp
      have h1 := h.at_ hi
      have h2 := h.part hi
      rw [getD_at h1] at h2
      have h3 := DSch.depth_part (List.getElem_mem h1)
      have := GV.depth k (by omega) h2
      omega
    omega
theorem GV.sound : ∀ (k : Nat) {v : DVal} {s : DSch}, GV v s → soundV k v = true ∧ fitsV k v s = true
  | 0, v, s, h => ⟨rfl, rfl⟩
  | k + 1, v, s, h => by
    rw [soundV, fitsV, h.here_, h.head, Bool.true_and, Bool.true_and]
    refine ⟨List.all_eq_true.2 fun p hp => ?_, List.all_eq_true.2 fun i hi => ?_⟩
    · obtain ⟨i, hi, rfl⟩ := List.getElem_of_mem hp
      exact (GV.sound k (h.part hi)).1
    · have hi := List.mem_range.1 hi
      rw [getD_at hi]
      exact (GV.sound k (h.part hi)).2
theorem GV.of : ∀ (k : Nat) {v : DVal} {s : DSch}, v.depth ≤ k → RS s → soundV k v = true → fitsV k v s = true → GV v s
  | 0, v, s, hk, _, _, _ => by have := v.depth_pos; omega
  | k + 1, v, s, hk, hs, h1, h2 => by
    have hrv : RV v := ⟨k + 1, hk, h1⟩
    rw [soundV, Bool.and_eq_true] at h1
    rw [fitsV, Bool.and_eq_true] at h2
    refine .mk h1.1 h2.1 (fun i hi => atF_lt hrv hs h2.1 hi) fun i hi => ?_
    have ha := atF_lt hrv hs h2.1 hi
    have h3 := List.all_eq_true.1 h2.2 i (List.mem_range.2 hi)
    have h4 := List.all_eq_true.1 h1.2 _ (List.getElem_mem hi)
    rw [getD_at hi] at h3
    have := DVal.depth_part (List.getElem_mem hi)
    refine GV.of k (by omega) ?_ h4 h3
    rw [getD_at ha]
    exact hs.part (List.getElem_mem ha)
theorem RS.of_top {s : DSch} (h : rightS 5 s = true) : RS s ∧ s.depth ≤ 5 := by
  have h1 := RS.of_right h
  refine ⟨⟨_, Nat.le_refl _, h1⟩, ?_⟩
  have := right_sound 5 s s.depth (Nat.le_refl _)
  rw [h] at this
  have := (Bool.and_eq_true _ _ ▸ this.symm).1
  simpa using this
theorem fitsTop_iff {v : DVal} {s : DSch} : fitsTop v s = true ↔ rightS 5 s = true ∧ GV v s := by
  constructor
  · intro h
    rw [fitsTop, Bool.and_eq_true, Bool.and_eq_true] at h
    obtain ⟨h1, h2, h3⟩ := h
    have := right_soundV 5 v v.depth (Nat.le_refl _)
    rw [h1] at this
    exact ⟨h2, GV.of v.depth (Nat.le_refl _) (RS.of_top h2).1 (Bool.and_eq_true _ _ ▸ this.symm).2 h3⟩
  · rintro ⟨h1, h2⟩
    obtain ⟨_, hd⟩ := RS.of_top h1
    have hv := GV.depth s.depth (Nat.le_refl _) h2
    have h3 := right_soundV 5 v v.depth (Nat.le_refl _)
    rw [(h2.sound v.depth).1, decide_eq_true (by omega : v.depth ≤ 5)] at h3
    rw [fitsTop, h3, h1, (h2.sound v.depth).2]; rfl
theorem GV.rv {v : DVal} {s : DSch} (h : GV v s) : RV v := ⟨v.depth, Nat.le_refl _, (h.sound v.depth).1⟩
theorem GV.kind {v : DVal} {s : DSch} (h : GV v s) : v.kind = s.kind := by
  have := h.head
  rw [headF, Bool.and_eq_true, decide_eq_true_eq] at this
  exact this.1
theorem GV.set {v : DVal} {s : DSch} (h : GV v s) {i : Nat} (hi : i < v.parts.length) {y : DVal} (hy : GV y (s.parts.getD (atF s i) default)) : GV (v.withParts (v.parts.set i y)) s := by
  have hl : (v.withParts (v.parts.set i y)).parts.length = v.parts.length := List.length_set
  refine .mk ?_ ?_ (fun j hj => h.at_ (by omega)) fun j hj => ?_
  · have := h.here_
    unfold hereV at this ⊢
    rw [hl]
    exact this
  · exact h.head
  · have hj' : j < (v.parts.set i y).length := hj
    show GV ((v.parts.set i y)[j]'hj') _
    rw [List.getElem_set]
    split
    · rename_i e; subst e; exact hy
    · exact h.part (by omega)
theorem GV.step {v : DVal} {s t : DSch} (h : GV v s) (hs : RS s) {p : DStp} (hp : inP v p) (ht : stepT s p = some t) : ∃ hi : plN v p < v.parts.length, s.parts.getD (atF s (plN v p)) default = t ∧ GV v.parts[plN v p] t := by
  have hi : plN v p < v.parts.length := by have := hp.1; have := hp.2; unfold plN; omega
  have hk := h.kind
  have key : s.parts.getD (atF s (plN v p)) default = t := by
    unfold stepT at ht
    have hpl := hp.1
    unfold placeOf at hpl
    by_cases h0 : p.1 = []
    · rw [if_pos h0] at ht hpl
      split at ht
      · rename_i hc
        injection ht with ht
        rw [atF, if_pos hc.1]
        exact ht
      · cases ht
    · rw [if_neg h0] at ht hpl
      unfold fieldS at ht
      split at ht
      · rename_i hc
        injection ht with ht
        have h5 : s.kind = 5 := by
          have := hc.1
          simp only [wholeS, Bool.and_eq_true, decide_eq_true_eq] at this
          exact this.1
        have hn : v.names = s.words := by
          have := h.head
          rw [headF, Bool.and_eq_true, Bool.and_eq_true] at this
          have h2 := this.2.2
          rw [decide_eq_true (by omega : v.kind = 5)] at h2
          simpa using h2
        have hw : wholeB v = true ∧ p.1 ∈ v.names := by
          refine ⟨?_, by rw [hn]; exact hc.2⟩
          have := h.rv.here
          simp only [wholeB, Bool.and_eq_true, decide_eq_true_eq]
          omega
        have hpn : plN v p = ixN s.words p.1 := by
          unfold plN placeOf
          rw [if_neg h0, if_pos hw, hn]
          simp
        rw [atF, if_neg (by omega), hpn]
        exact ht
      · cases ht
  exact ⟨hi, key, key ▸ h.part hi⟩
theorem RS.step {s t : DSch} (h : RS s) {p : DStp} (ht : stepT s p = some t) : RS t := h.part (stepT_mem ht)
theorem GV.get : ∀ (ps : List DStp) {v x : DVal} {s t : DSch}, GV v s → RS s → typS ps s = some t → getV ps v = some x → GV x t ∧ RS t ∧ t.depth + ps.length ≤ s.depth
  | [], v, x, s, t, h, hs, ht, hx => by
    injection ht with ht
    injection hx with hx
    subst ht hx
    exact ⟨h, hs, by simp⟩
  | p :: ps, v, x, s, t, h, hs, ht, hx => by
    rw [typS_cons] at ht
    cases hq : stepT s p with
    | none => rw [hq] at ht; cases ht
    | some u =>
      rw [hq] at ht
      rw [getV_cons] at hx
      split at hx
      · rename_i hin
        obtain ⟨hi, _, hg⟩ := h.step hs hin hq
        rw [getD_at hi] at hx
        have hd := DSch.depth_part (stepT_mem hq)
        obtain ⟨g1, g2, g3⟩ := GV.get ps hg (hs.step hq) ht hx
        exact ⟨g1, g2, by simp only [List.length_cons]; omega⟩
      · cases hx
theorem GV.put : ∀ (ps : List DStp) {v x y : DVal} {s t : DSch}, GV v s → RS s → typS ps s = some t → getV ps v = some x → GV y t → GV (chV (fun _ => y) ps v) s
  | [], v, x, y, s, t, h, hs, ht, hx, hy => by injection ht with ht; subst ht; exact hy
  | p :: ps, v, x, y, s, t, h, hs, ht, hx, hy => by
    rw [typS_cons] at ht
    cases hq : stepT s p with
    | none => rw [hq] at ht; cases ht
    | some u =>
      rw [hq] at ht
      rw [getV_cons] at hx
      split at hx
      · rename_i hin
        obtain ⟨hi, hu, hg⟩ := h.step hs hin hq
        rw [getD_at hi] at hx
        rw [chV, if_pos hin, getD_at hi]
        refine h.set hi ?_
        rw [hu]
        exact GV.put ps hg (hs.step hq) ht hx hy
      · cases hx
theorem idOk_iff (l : List Nat) : (List.range l.length).all (idOk l) = true ↔ l.Nodup ∧ 0 ∉ l := by
  rw [List.all_eq_true]
  constructor
  · intro h
    have h' := fun i (hi : i < l.length) => h i (List.mem_range.2 hi)
    simp only [idOk, Bool.and_eq_true, Bool.not_eq_true', decide_eq_false_iff_not] at h'
    refine ⟨List.pairwise_iff_getElem.2 fun i j hi hj hij e => ?_, fun h0 => ?_⟩
    · have := (h' j hj).2
      rw [getD_at hj, ← e, List.mem_take_iff_getElem] at this
      exact this ⟨i, by omega, rfl⟩
    · obtain ⟨i, hi, e⟩ := List.getElem_of_mem h0
      have := (h' i hi).1
      rw [getD_at hi, e] at this
      simp at this
  · rintro ⟨h1, h2⟩ i hi
    have hi := List.mem_range.1 hi
    simp only [idOk, Bool.and_eq_true, Bool.not_eq_true', decide_eq_false_iff_not]
    rw [getD_at hi]
    refine ⟨?_, fun hm => ?_⟩
    · have : l[i] ≠ 0 := fun e => h2 (e ▸ List.getElem_mem hi)
      simpa using this
    · rw [List.mem_take_iff_getElem] at hm
      obtain ⟨j, hj, e⟩ := hm
      exact List.pairwise_iff_getElem.1 h1 j i (by omega) hi (by omega) e
end Go.Proofs.YtjjhjhjphhpeiaaGreatDoor

namespace Go.Proofs.YtjjhjhjphhpeiaaGreatDoor
open Go.RowKit
structure GList (v : DVal) (t : DSch) : Prop where
  kind : v.kind = 6
  names : v.names = []
  nodup : v.ids.Nodup
  zero : 0 ∉ v.ids
  most : v.ids.length ≤ 12
  len : v.parts.length = v.ids.length
  parts : ∀ p ∈ v.parts, GV p (t.parts.getD 0 default)
theorem here_parts {v : DVal} (h : hereV v = true) : ¬ bad1 v.kind v.n v.s.length v.names.length v.ids.length ∧ ¬ bad2 v.kind v.n v.s.length v.names.length v.ids.length v.parts.length (nameB v.s) ∧ (List.range v.names.length).all (riseOk v.names) = true ∧ (List.range v.ids.length).all (idOk v.ids) = true := by
  rw [hereV, Bool.and_eq_true, Bool.and_eq_true, Bool.and_eq_true, Bool.not_eq_true', Bool.not_eq_true', decide_eq_false_iff_not, decide_eq_false_iff_not] at h
  exact ⟨h.1.1, h.1.2, h.2.1, h.2.2⟩
theorem here_of {v : DVal} (h : ¬ bad1 v.kind v.n v.s.length v.names.length v.ids.length ∧ ¬ bad2 v.kind v.n v.s.length v.names.length v.ids.length v.parts.length (nameB v.s) ∧ (List.range v.names.length).all (riseOk v.names) = true ∧ (List.range v.ids.length).all (idOk v.ids) = true) : hereV v = true := by
  rw [hereV, Bool.and_eq_true, Bool.and_eq_true, Bool.and_eq_true, Bool.not_eq_true', Bool.not_eq_true', decide_eq_false_iff_not, decide_eq_false_iff_not]
  exact ⟨⟨h.1, h.2.1⟩, h.2.2.1, h.2.2.2⟩
theorem GV.list {v : DVal} {t : DSch} (h : GV v t) (h6 : t.kind = 6) : GList v t := by
  obtain ⟨b1, b2, b3, b4⟩ := here_parts h.here_
  have hk : v.kind = 6 := h.kind.trans h6
  obtain ⟨n1, n2⟩ := (idOk_iff _).1 b4
  unfold bad1 at b1
  unfold bad2 at b2
  refine ⟨hk, List.eq_nil_of_length_eq_zero (by omega), n1, n2, by omega, by omega, fun p hp => ?_⟩
  obtain ⟨i, hi, rfl⟩ := List.getElem_of_mem hp
  have := h.part hi
  rwa [atF, if_pos h6] at this
theorem GV.ofList {v : DVal} {t : DSch} (h : GV v t) (ht : RS t) (h6 : t.kind = 6) {is : List Nat} {ps : List DVal} (hn : is.Nodup) (h0 : 0 ∉ is) (h12 : is.length ≤ 12) (hl : ps.length = is.length) (hp : ∀ p ∈ ps, GV p (t.parts.getD 0 default)) : GV (v.ofList is ps) t := by
  obtain ⟨b1, b2, b3, b4⟩ := here_parts h.here_
  have hk : v.kind = 6 := h.kind.trans h6
  have hnn := (h.list h6).names
  have h1 := ht.here.2 h6
  refine .mk (here_of ⟨?_, ?_, b3, (idOk_iff _).2 ⟨hn, h0⟩⟩) h.head (fun i hi => by rw [atF, if_pos h6]; omega) fun i hi => ?_
  · show ¬ bad1 v.kind v.n v.s.length v.names.length is.length
    unfold bad1 at b1 ⊢
    omega
  · show ¬ bad2 v.kind v.n v.s.length v.names.length is.length ps.length (nameB v.s)
    unfold bad2 at b2 ⊢
    rw [hnn] at b2 ⊢
    simp only [List.length_nil] at b2 ⊢
    omega
  · rw [atF, if_pos h6]
    exact hp _ (List.getElem_mem hi)
theorem perm_ins {α : Type} (l : List α) (x : α) (k : Nat) : (l.take k ++ [x] ++ l.drop k).Perm (x :: l) := by
  have h := List.perm_middle (a := x) (l₁ := l.take k) (l₂ := l.drop k)
  rw [List.take_append_drop] at h
  simpa using h
theorem sub_del {α : Type} (l : List α) (k : Nat) : (l.take k ++ l.drop (k + 1)).Sublist l := by
  rw [← List.eraseIdx_eq_take_drop_succ]
  exact List.eraseIdx_sublist l k
theorem notMem_del {l : List Nat} (h : l.Nodup) {k : Nat} (hk : k < l.length) : l[k] ∉ l.take k ++ l.drop (k + 1) := by
  have e : l = l.take k ++ l[k] :: l.drop (k + 1) := by rw [← List.drop_eq_getElem_cons hk, List.take_append_drop]
  have hp := List.perm_middle (a := l[k]) (l₁ := l.take k) (l₂ := l.drop (k + 1))
  rw [← e] at hp
  exact (List.nodup_cons.1 (hp.nodup_iff.1 h)).1
theorem GV.pl {v x : DVal} {t : DSch} (h : GV v t) (ht : RS t) (h6 : t.kind = 6) {id after : Nat} (hid : id ∉ v.ids) (h0 : id ≠ 0) (h12 : v.ids.length < 12) (hx : GV x (t.parts.getD 0 default)) : GV (plV v id after x) t := by
  have hg := h.list h6
  have hp := perm_ins v.ids id (plK v after)
  refine h.ofList ht h6 (hp.nodup_iff.2 (List.nodup_cons.2 ⟨hid, hg.nodup⟩)) (fun hm => ?_) (by rw [ins_len _ _ (plK_le v after)]; omega) (by rw [ins_len _ _ (plK_le v after), ins_len _ _ (by rw [hg.len]; exact plK_le v after), hg.len]) fun p hpm => ?_
  · rcases List.mem_cons.1 (hp.mem_iff.1 hm) with e | e
    · exact h0 e.symm
    · exact hg.zero e
  · rcases List.mem_cons.1 ((perm_ins v.parts x (plK v after)).mem_iff.1 hpm) with e | e
    · rw [e]; exact hx
    · exact hg.parts p e
theorem GV.tk {v : DVal} {t : DSch} (h : GV v t) (ht : RS t) (h6 : t.kind = 6) {k : Nat} (hk : k < v.ids.length) : GV (tkV v k) t := by
  have hg := h.list h6
  have hs := sub_del v.ids k
  refine h.ofList ht h6 (hs.nodup hg.nodup) (fun hm => hg.zero (hs.subset hm)) (by have := hs.length_le; have := hg.most; omega) (by rw [del_len _ hk, del_len _ (by rw [hg.len]; exact hk), hg.len]) fun p hpm => hg.parts p ((sub_del v.parts k).subset hpm)
theorem GV.ls {o : DOp} {v : DVal} {t : DSch} (h : GV v t) (ht : RS t) (h6 : t.kind = 6) (hi : o.kind = 2 → o.id ≠ 0 ∧ GV o.val (t.parts.getD 0 default)) : GV (lsV o v) t := by
  have hg := h.list h6
  unfold lsV
  split
  · rename_i k2
    split
    · rename_i hc
      exact h.pl ht h6 hc.1 (hi k2).1 hc.2 (hi k2).2
    · exact h
  · split
    · exact h
    · rename_i hm
      have hm : o.id ∈ v.ids := Classical.not_not.1 hm
      have hk := ix_lt hm
      have hix : v.ids[ixN v.ids o.id] = o.id := by
        have := List.getElem_idxOf (x := o.id) (xs := v.ids) hk
        exact this
      split
      · have hpl : ixN v.ids o.id < v.parts.length := by rw [hg.len]; exact hk
        have hl := del_len v.ids hk
        have hmo := hg.most
        refine (h.tk ht h6 hk).pl ht h6 ?_ (fun e => hg.zero (e ▸ hm)) ?_ ?_
        · have := notMem_del hg.nodup hk
          rw [hix] at this
          exact this
        · have hl' : (tkV v (ixN v.ids o.id)).ids.length = v.ids.length - 1 := hl
          rw [hl']; omega
        · rw [show elK o v = ixN v.ids o.id from rfl, getD_at hpl]
          exact hg.parts _ (List.getElem_mem hpl)
      · exact h.tk ht h6 hk
end Go.Proofs.YtjjhjhjphhpeiaaGreatDoor

namespace Go.Proofs.YtjjhjhjphhpeiaaGreatDoor
open Go.RowKit
structure OkO (o : DOp) : Prop where
  path : o.path.length ≤ 1000
  names : ∀ p ∈ o.path, p.1.length ≤ maxLen
  val : okV o.val
  wt : o.val.weight ≤ 1000
  kind : I64 o.kind
  id : U64 (o.id : Int)
  after : U64 (o.after : Int)
noncomputable def rightO (o : DOp) : Bool := rightP o.path &&
  (if o.kind = 1 then decide (o.id = 0) && decide (o.after = 0) && rightV 5 o.val
   else if o.kind = 2 then decide (o.id ≠ 0) && decide (o.id ≠ o.after) && rightV 5 o.val
   else if o.kind = 3 then decide (o.id ≠ 0) && decide (o.after = 0) && eqB o.val zeroV
   else if o.kind = 4 then decide (o.id ≠ 0) && decide (o.id ≠ o.after) && eqB o.val zeroV
   else false)
theorem zero_wt : zeroV.weight = 1 := by simp [zeroV, DVal.weight_eq, DVal.names, DVal.ids, DVal.parts, DVal.weights]
theorem u64_dec (a b : Nat) : ((a : Int) == (b : Int)) = decide (a = b) := by rw [Bool.eq_iff_iff]; simp; omega
theorem u64_dne (a b : Nat) : ((a : Int) != (b : Int)) = decide (a ≠ b) := by
  have : ((a : Int) != (b : Int)) = !((a : Int) == (b : Int)) := rfl
  rw [this, u64_dec]; simp
theorem u64_d0 (a : Nat) : ((a : Int) == 0) = decide (a = 0) := u64_dec a 0
theorem u64_n0 (a : Nat) : ((a : Int) != 0) = decide (a ≠ 0) := u64_dne a 0
set_option maxRecDepth 200000 in
set_option maxHeartbeats 8000000 in
theorem right_o (o : DOp) (h : OkO o) : DPure Tryz.prog 19 [encO o] (.v (.bool (rightO o))) := by
  have hwt := h.wt
  have hpl := h.path
  refine dpure_of_dwp mixed Tryz.func19 rfl (fun _ _ => by kernel_rfl) (rs := [.tmp 2]) rfl (by kernel_rfl) trivial (fun S hS => ?_)
  (simp (disch := first | decide | omega | (simp only [nx]; first | done | omega)) only [go_sem, opCs]; (repeat with_reducible refine aI ?_))
  refine DCalls.of_pure (pathRight_d .no o.path (by omega) h.names) ?_
  cases hp : rightP o.path with
  | false =>
    (simp (disch := first | decide | omega | (simp only [nx]; first | done | omega)) only [go_sem]; (repeat with_reducible refine aI ?_))
    refine ⟨?_, (by (repeat' first | assumption | exact St.Sub.refl _ | exact RowOk.sub (by assumption) (by assumption) | refine St.Sub.trans ?_ (RowOk.sub (by assumption) (by assumption)) | refine St.Sub.add ?_ ?_ _ | refine St.Sub.set ?_ ?_ ?_ _ | refine St.Sub.keep ?_ ?_ | refine St.WF.leave ?_ _ | refine St.WF.add ?_ _ | refine St.WF.set ?_ ?_ _ | refine St.WF.grow ?_ _ _ _ | refine St.WF.keep ?_ ?_ | (first | omega | (simp only [RowOk.lo, nx]; first | done | omega))))⟩
    rw [rightO, hp]; rfl
  | true =>
  (simp (disch := first | decide | omega | (simp only [nx]; first | done | omega)) only [go_sem]; (repeat with_reducible refine aI ?_))
  have hsm := valSame_d o.val.depth o.val zeroV (Nat.le_refl _) (by omega) (by rw [zero_wt]; omega)
  refine DCalls.of_pure (DPure.weak hsm (by simp only [frzL, frz_encV]; rfl)) ?_
  have hv := valRight_d o.val h.val
  by_cases k1 : o.kind = 1
  · have c1 : (o.kind == 1) = true := by simp [k1]
    by_cases i0 : o.id = 0
    · by_cases a0 : o.after = 0
      · have d1 := decide_eq_true i0
        have d2 := decide_eq_true a0
        (simp (disch := first | decide | omega | (simp only [nx]; first | done | omega)) only [go_sem, c1, u64_d0, d1, d2]; (repeat with_reducible refine aI ?_))
        refine DCalls.of_pure hv ?_
        (simp (disch := first | decide | omega | (simp only [nx]; first | done | omega)) only [go_sem]; (repeat with_reducible refine aI ?_))
        refine ⟨?_, (by (repeat' first | assumption | exact St.Sub.refl _ | exact RowOk.sub (by assumption) (by assumption) | refine St.Sub.trans ?_ (RowOk.sub (by assumption) (by assumption)) | refine St.Sub.add ?_ ?_ _ | refine St.Sub.set ?_ ?_ ?_ _ | refine St.Sub.keep ?_ ?_ | refine St.WF.leave ?_ _ | refine St.WF.add ?_ _ | refine St.WF.set ?_ ?_ _ | refine St.WF.grow ?_ _ _ _ | refine St.WF.keep ?_ ?_ | (first | omega | (simp only [RowOk.lo, nx]; first | done | omega))))⟩
        rw [rightO, hp, if_pos k1, d1, d2]; rfl
      · have d1 := decide_eq_true i0
        have d2 := decide_eq_false a0
        (simp (disch := first | decide | omega | (simp only [nx]; first | done | omega)) only [go_sem, c1, u64_d0, d1, d2]; (repeat with_reducible refine aI ?_))
        refine ⟨?_, (by (repeat' first | assumption | exact St.Sub.refl _ | exact RowOk.sub (by assumption) (by assumption) | refine St.Sub.trans ?_ (RowOk.sub (by assumption) (by assumption)) | refine St.Sub.add ?_ ?_ _ | refine St.Sub.set ?_ ?_ ?_ _ | refine St.Sub.keep ?_ ?_ | refine St.WF.leave ?_ _ | refine St.WF.add ?_ _ | refine St.WF.set ?_ ?_ _ | refine St.WF.grow ?_ _ _ _ | refine St.WF.keep ?_ ?_ | (first | omega | (simp only [RowOk.lo, nx]; first | done | omega))))⟩
        rw [rightO, hp, if_pos k1, d1, d2]; rfl
    · have d1 := decide_eq_false i0
      (simp (disch := first | decide | omega | (simp only [nx]; first | done | omega)) only [go_sem, c1, u64_d0, d1]; (repeat with_reducible refine aI ?_))
      refine ⟨?_, (by (repeat' first | assumption | exact St.Sub.refl _ | exact RowOk.sub (by assumption) (by assumption) | refine St.Sub.trans ?_ (RowOk.sub (by assumption) (by assumption)) | refine St.Sub.add ?_ ?_ _ | refine St.Sub.set ?_ ?_ ?_ _ | refine St.Sub.keep ?_ ?_ | refine St.WF.leave ?_ _ | refine St.WF.add ?_ _ | refine St.WF.set ?_ ?_ _ | refine St.WF.grow ?_ _ _ _ | refine St.WF.keep ?_ ?_ | (first | omega | (simp only [RowOk.lo, nx]; first | done | omega))))⟩
      rw [rightO, hp, if_pos k1, d1]; rfl
  have c1 : (o.kind == 1) = false := by simp [k1]
  by_cases k2 : o.kind = 2
  · have c2 : (o.kind == 2) = true := by simp [k2]
    by_cases i0 : o.id ≠ 0
    · by_cases a0 : o.id ≠ o.after
      · have d1 := decide_eq_true i0
        have d2 := decide_eq_true a0
        (simp (disch := first | decide | omega | (simp only [nx]; first | done | omega)) only [go_sem, c1, c2, u64_n0, u64_dne, d1, d2]; (repeat with_reducible refine aI ?_))
        refine DCalls.of_pure hv ?_
        (simp (disch := first | decide | omega | (simp only [nx]; first | done | omega)) only [go_sem]; (repeat with_reducible refine aI ?_))
        refine ⟨?_, (by (repeat' first | assumption | exact St.Sub.refl _ | exact RowOk.sub (by assumption) (by assumption) | refine St.Sub.trans ?_ (RowOk.sub (by assumption) (by assumption)) | refine St.Sub.add ?_ ?_ _ | refine St.Sub.set ?_ ?_ ?_ _ | refine St.Sub.keep ?_ ?_ | refine St.WF.leave ?_ _ | refine St.WF.add ?_ _ | refine St.WF.set ?_ ?_ _ | refine St.WF.grow ?_ _ _ _ | refine St.WF.keep ?_ ?_ | (first | omega | (simp only [RowOk.lo, nx]; first | done | omega))))⟩
        rw [rightO, hp, if_neg k1, if_pos k2, d1, d2]; rfl
      · have d1 := decide_eq_true i0
        have d2 := decide_eq_false a0
        (simp (disch := first | decide | omega | (simp only [nx]; first | done | omega)) only [go_sem, c1, c2, u64_n0, u64_dne, d1, d2]; (repeat with_reducible refine aI ?_))
        refine ⟨?_, (by (repeat' first | assumption | exact St.Sub.refl _ | exact RowOk.sub (by assumption) (by assumption) | refine St.Sub.trans ?_ (RowOk.sub (by assumption) (by assumption)) | refine St.Sub.add ?_ ?_ _ | refine St.Sub.set ?_ ?_ ?_ _ | refine St.Sub.keep ?_ ?_ | refine St.WF.leave ?_ _ | refine St.WF.add ?_ _ | refine St.WF.set ?_ ?_ _ | refine St.WF.grow ?_ _ _ _ | refine St.WF.keep ?_ ?_ | (first | omega | (simp only [RowOk.lo, nx]; first | done | omega))))⟩
        rw [rightO, hp, if_neg k1, if_pos k2, d1, d2]; rfl
    · have d1 := decide_eq_false i0
      (simp (disch := first | decide | omega | (simp only [nx]; first | done | omega)) only [go_sem, c1, c2, u64_n0, u64_dne, d1]; (repeat with_reducible refine aI ?_))
      refine ⟨?_, (by (repeat' first | assumption | exact St.Sub.refl _ | exact RowOk.sub (by assumption) (by assumption) | refine St.Sub.trans ?_ (RowOk.sub (by assumption) (by assumption)) | refine St.Sub.add ?_ ?_ _ | refine St.Sub.set ?_ ?_ ?_ _ | refine St.Sub.keep ?_ ?_ | refine St.WF.leave ?_ _ | refine St.WF.add ?_ _ | refine St.WF.set ?_ ?_ _ | refine St.WF.grow ?_ _ _ _ | refine St.WF.keep ?_ ?_ | (first | omega | (simp only [RowOk.lo, nx]; first | done | omega))))⟩
      rw [rightO, hp, if_neg k1, if_pos k2, d1]; rfl
  have c2 : (o.kind == 2) = false := by simp [k2]
  by_cases k3 : o.kind = 3
  · have c3 : (o.kind == 3) = true := by simp [k3]
    by_cases i0 : o.id ≠ 0
    · by_cases a0 : o.after = 0
      · have d1 := decide_eq_true i0
        have d2 := decide_eq_true a0
        (simp (disch := first | decide | omega | (simp only [nx]; first | done | omega)) only [go_sem, c1, c2, c3, u64_n0, u64_d0, d1, d2]; (repeat with_reducible refine aI ?_))
        refine ⟨?_, (by (repeat' first | assumption | exact St.Sub.refl _ | exact RowOk.sub (by assumption) (by assumption) | refine St.Sub.trans ?_ (RowOk.sub (by assumption) (by assumption)) | refine St.Sub.add ?_ ?_ _ | refine St.Sub.set ?_ ?_ ?_ _ | refine St.Sub.keep ?_ ?_ | refine St.WF.leave ?_ _ | refine St.WF.add ?_ _ | refine St.WF.set ?_ ?_ _ | refine St.WF.grow ?_ _ _ _ | refine St.WF.keep ?_ ?_ | (first | omega | (simp only [RowOk.lo, nx]; first | done | omega))))⟩
        rw [rightO, hp, if_neg k1, if_neg k2, if_pos k3, d1, d2]; rfl
      · have d1 := decide_eq_true i0
        have d2 := decide_eq_false a0
        (simp (disch := first | decide | omega | (simp only [nx]; first | done | omega)) only [go_sem, c1, c2, c3, u64_n0, u64_d0, d1, d2]; (repeat with_reducible refine aI ?_))
        refine ⟨?_, (by (repeat' first | assumption | exact St.Sub.refl _ | exact RowOk.sub (by assumption) (by assumption) | refine St.Sub.trans ?_ (RowOk.sub (by assumption) (by assumption)) | refine St.Sub.add ?_ ?_ _ | refine St.Sub.set ?_ ?_ ?_ _ | refine St.Sub.keep ?_ ?_ | refine St.WF.leave ?_ _ | refine St.WF.add ?_ _ | refine St.WF.set ?_ ?_ _ | refine St.WF.grow ?_ _ _ _ | refine St.WF.keep ?_ ?_ | (first | omega | (simp only [RowOk.lo, nx]; first | done | omega))))⟩
        rw [rightO, hp, if_neg k1, if_neg k2, if_pos k3, d1, d2]; rfl
    · have d1 := decide_eq_false i0
      (simp (disch := first | decide | omega | (simp only [nx]; first | done | omega)) only [go_sem, c1, c2, c3, u64_n0, u64_d0, d1]; (repeat with_reducible refine aI ?_))
      refine ⟨?_, (by (repeat' first | assumption | exact St.Sub.refl _ | exact RowOk.sub (by assumption) (by assumption) | refine St.Sub.trans ?_ (RowOk.sub (by assumption) (by assumption)) | refine St.Sub.add ?_ ?_ _ | refine St.Sub.set ?_ ?_ ?_ _ | refine St.Sub.keep ?_ ?_ | refine St.WF.leave ?_ _ | refine St.WF.add ?_ _ | refine St.WF.set ?_ ?_ _ | refine St.WF.grow ?_ _ _ _ | refine St.WF.keep ?_ ?_ | (first | omega | (simp only [RowOk.lo, nx]; first | done | omega))))⟩
      rw [rightO, hp, if_neg k1, if_neg k2, if_pos k3, d1]; rfl
  have c3 : (o.kind == 3) = false := by simp [k3]
  by_cases k4 : o.kind = 4
  · have c4 : (o.kind == 4) = true := by simp [k4]
    by_cases i0 : o.id ≠ 0
    · by_cases a0 : o.id ≠ o.after
      · have d1 := decide_eq_true i0
        have d2 := decide_eq_true a0
        (simp (disch := first | decide | omega | (simp only [nx]; first | done | omega)) only [go_sem, c1, c2, c3, c4, u64_n0, u64_dne, d1, d2]; (repeat with_reducible refine aI ?_))
        refine ⟨?_, (by (repeat' first | assumption | exact St.Sub.refl _ | exact RowOk.sub (by assumption) (by assumption) | refine St.Sub.trans ?_ (RowOk.sub (by assumption) (by assumption)) | refine St.Sub.add ?_ ?_ _ | refine St.Sub.set ?_ ?_ ?_ _ | refine St.Sub.keep ?_ ?_ | refine St.WF.leave ?_ _ | refine St.WF.add ?_ _ | refine St.WF.set ?_ ?_ _ | refine St.WF.grow ?_ _ _ _ | refine St.WF.keep ?_ ?_ | (first | omega | (simp only [RowOk.lo, nx]; first | done | omega))))⟩
        rw [rightO, hp, if_neg k1, if_neg k2, if_neg k3, if_pos k4, d1, d2]; rfl
      · have d1 := decide_eq_true i0
        have d2 := decide_eq_false a0
        (simp (disch := first | decide | omega | (simp only [nx]; first | done | omega)) only [go_sem, c1, c2, c3, c4, u64_n0, u64_dne, d1, d2]; (repeat with_reducible refine aI ?_))
        refine ⟨?_, (by (repeat' first | assumption | exact St.Sub.refl _ | exact RowOk.sub (by assumption) (by assumption) | refine St.Sub.trans ?_ (RowOk.sub (by assumption) (by assumption)) | refine St.Sub.add ?_ ?_ _ | refine St.Sub.set ?_ ?_ ?_ _ | refine St.Sub.keep ?_ ?_ | refine St.WF.leave ?_ _ | refine St.WF.add ?_ _ | refine St.WF.set ?_ ?_ _ | refine St.WF.grow ?_ _ _ _ | refine St.WF.keep ?_ ?_ | (first | omega | (simp only [RowOk.lo, nx]; first | done | omega))))⟩
        rw [rightO, hp, if_neg k1, if_neg k2, if_neg k3, if_pos k4, d1, d2]; rfl
    · have d1 := decide_eq_false i0
      (simp (disch := first | decide | omega | (simp only [nx]; first | done | omega)) only [go_sem, c1, c2, c3, c4, u64_n0, u64_dne, d1]; (repeat with_reducible refine aI ?_))
      refine ⟨?_, (by (repeat' first | assumption | exact St.Sub.refl _ | exact RowOk.sub (by assumption) (by assumption) | refine St.Sub.trans ?_ (RowOk.sub (by assumption) (by assumption)) | refine St.Sub.add ?_ ?_ _ | refine St.Sub.set ?_ ?_ ?_ _ | refine St.Sub.keep ?_ ?_ | refine St.WF.leave ?_ _ | refine St.WF.add ?_ _ | refine St.WF.set ?_ ?_ _ | refine St.WF.grow ?_ _ _ _ | refine St.WF.keep ?_ ?_ | (first | omega | (simp only [RowOk.lo, nx]; first | done | omega))))⟩
      rw [rightO, hp, if_neg k1, if_neg k2, if_neg k3, if_pos k4, d1]; rfl
  have c4 : (o.kind == 4) = false := by simp [k4]
  (simp (disch := first | decide | omega | (simp only [nx]; first | done | omega)) only [go_sem, c1, c2, c3, c4]; (repeat with_reducible refine aI ?_))
  refine ⟨?_, (by (repeat' first | assumption | exact St.Sub.refl _ | exact RowOk.sub (by assumption) (by assumption) | refine St.Sub.trans ?_ (RowOk.sub (by assumption) (by assumption)) | refine St.Sub.add ?_ ?_ _ | refine St.Sub.set ?_ ?_ ?_ _ | refine St.Sub.keep ?_ ?_ | refine St.WF.leave ?_ _ | refine St.WF.add ?_ _ | refine St.WF.set ?_ ?_ _ | refine St.WF.grow ?_ _ _ _ | refine St.WF.keep ?_ ?_ | (first | omega | (simp only [RowOk.lo, nx]; first | done | omega))))⟩
  rw [rightO, hp, if_neg k1, if_neg k2, if_neg k3, if_neg k4]; rfl
def fitO (o : DOp) (t : DSch) : Bool := if o.kind = 1 then fitsTop o.val t else if t.kind = 6 then (if o.kind = 2 then fitsTop o.val (t.parts.getD 0 default) else true) else false
noncomputable def chkO (o : DOp) (s : DSch) : Nat := if rightO o = true ∧ rightS 5 s = true then (match typS o.path s with | some t => if fitO o t = true then 0 else 6 | none => 6) else 1
def errO (c : Nat) : D := if c = 0 then .v .nilIface else .ifc 62 (.v (.int .i64 (c : Int)))
theorem errO_closed (c : Nat) : (errO c).closed := by unfold errO; split <;> simp [D.closed, D.all]
set_option maxRecDepth 200000 in
set_option maxHeartbeats 8000000 in
theorem check_o (o : DOp) (s : DSch) (h : OkO o) (hs : okS s) (hsw : s.weight ≤ 1000) : DPure Tryz.prog 21 [encO o, encS s] (errO (chkO o s)) := by
  have hwt := h.wt
  have hpl := h.path
  have hdw := DVal.depth_weight o.val.depth o.val (Nat.le_refl _)
  refine dpure_of_dwp mixed Tryz.func21 rfl (fun _ _ => by kernel_rfl) (rs := [.tmp 4]) rfl (by kernel_rfl) (errO_closed _) (fun S hS => ?_)
  (simp (disch := first | decide | omega | (simp only [nx]; first | done | omega)) only [go_sem]; (repeat with_reducible refine aI ?_))
  refine DCalls.of_pure (right_o o h) ?_
  cases hr : rightO o with
  | false =>
    (simp (disch := first | decide | omega | (simp only [nx]; first | done | omega)) only [go_sem]; (repeat with_reducible refine aI ?_))
    refine ⟨?_, (by (repeat' first | assumption | exact St.Sub.refl _ | exact RowOk.sub (by assumption) (by assumption) | refine St.Sub.trans ?_ (RowOk.sub (by assumption) (by assumption)) | refine St.Sub.add ?_ ?_ _ | refine St.Sub.set ?_ ?_ ?_ _ | refine St.Sub.keep ?_ ?_ | refine St.WF.leave ?_ _ | refine St.WF.add ?_ _ | refine St.WF.set ?_ ?_ _ | refine St.WF.grow ?_ _ _ _ | refine St.WF.keep ?_ ?_ | (first | omega | (simp only [RowOk.lo, nx]; first | done | omega))))⟩
    rw [chkO, if_neg (by rw [hr]; simp)]; rfl
  | true =>
  (simp (disch := first | decide | omega | (simp only [nx]; first | done | omega)) only [go_sem]; (repeat with_reducible refine aI ?_))
  refine DCalls.of_pure (schRight_d s hs) ?_
  cases hrs : rightS 5 s with
  | false =>
    (simp (disch := first | decide | omega | (simp only [nx]; first | done | omega)) only [go_sem]; (repeat with_reducible refine aI ?_))
    refine ⟨?_, (by (repeat' first | assumption | exact St.Sub.refl _ | exact RowOk.sub (by assumption) (by assumption) | refine St.Sub.trans ?_ (RowOk.sub (by assumption) (by assumption)) | refine St.Sub.add ?_ ?_ _ | refine St.Sub.set ?_ ?_ ?_ _ | refine St.Sub.keep ?_ ?_ | refine St.WF.leave ?_ _ | refine St.WF.add ?_ _ | refine St.WF.set ?_ ?_ _ | refine St.WF.grow ?_ _ _ _ | refine St.WF.keep ?_ ?_ | (first | omega | (simp only [RowOk.lo, nx]; first | done | omega))))⟩
    rw [chkO, if_neg (by rw [hrs]; simp)]; rfl
  | true =>
  have hc : chkO o s = (match typS o.path s with | some t => if fitO o t = true then 0 else 6 | none => 6) := by rw [chkO, if_pos ⟨hr, hrs⟩]
  obtain ⟨hRS, hdep⟩ := RS.of_top hrs
  (simp (disch := first | decide | omega | (simp only [nx]; first | done | omega)) only [go_sem, opCs]; (repeat with_reducible refine aI ?_))
  refine DCalls.of_pure (type_d s o.path .no hs (by omega) (by omega)) ?_
  cases ht : typS o.path s with
  | none =>
    (simp (disch := first | decide | omega | (simp only [nx]; first | done | omega)) only [go_sem, tupS, Option.getD_none, Option.isSome_none]; (repeat with_reducible refine aI ?_))
    refine ⟨?_, (by (repeat' first | assumption | exact St.Sub.refl _ | exact RowOk.sub (by assumption) (by assumption) | refine St.Sub.trans ?_ (RowOk.sub (by assumption) (by assumption)) | refine St.Sub.add ?_ ?_ _ | refine St.Sub.set ?_ ?_ ?_ _ | refine St.Sub.keep ?_ ?_ | refine St.WF.leave ?_ _ | refine St.WF.add ?_ _ | refine St.WF.set ?_ ?_ _ | refine St.WF.grow ?_ _ _ _ | refine St.WF.keep ?_ ?_ | (first | omega | (simp only [RowOk.lo, nx]; first | done | omega))))⟩
    rw [hc, ht]; rfl
  | some t =>
  obtain ⟨hto, htw⟩ := typS_fine _ ht hs (by omega)
  rw [ht] at hc
  simp only at hc
  by_cases k1 : o.kind = 1
  · have c1 : (o.kind == 1) = true := by simp [k1]
    (simp (disch := first | decide | omega | (simp only [nx]; first | done | omega)) only [go_sem, tupS, Option.getD_some, Option.isSome_some, c1]; (repeat with_reducible refine aI ?_))
    refine DCalls.of_pure (fitsTop_d o.val t h.val hto) ?_
    have hf : fitO o t = fitsTop o.val t := by rw [fitO, if_pos k1]
    cases hft : fitsTop o.val t with
    | true =>
      (simp (disch := first | decide | omega | (simp only [nx]; first | done | omega)) only [go_sem]; (repeat with_reducible refine aI ?_))
      refine ⟨?_, (by (repeat' first | assumption | exact St.Sub.refl _ | exact RowOk.sub (by assumption) (by assumption) | refine St.Sub.trans ?_ (RowOk.sub (by assumption) (by assumption)) | refine St.Sub.add ?_ ?_ _ | refine St.Sub.set ?_ ?_ ?_ _ | refine St.Sub.keep ?_ ?_ | refine St.WF.leave ?_ _ | refine St.WF.add ?_ _ | refine St.WF.set ?_ ?_ _ | refine St.WF.grow ?_ _ _ _ | refine St.WF.keep ?_ ?_ | (first | omega | (simp only [RowOk.lo, nx]; first | done | omega))))⟩
      rw [hc, hf, hft]; rfl
    | false =>
      (simp (disch := first | decide | omega | (simp only [nx]; first | done | omega)) only [go_sem]; (repeat with_reducible refine aI ?_))
      refine ⟨?_, (by (repeat' first | assumption | exact St.Sub.refl _ | exact RowOk.sub (by assumption) (by assumption) | refine St.Sub.trans ?_ (RowOk.sub (by assumption) (by assumption)) | refine St.Sub.add ?_ ?_ _ | refine St.Sub.set ?_ ?_ ?_ _ | refine St.Sub.keep ?_ ?_ | refine St.WF.leave ?_ _ | refine St.WF.add ?_ _ | refine St.WF.set ?_ ?_ _ | refine St.WF.grow ?_ _ _ _ | refine St.WF.keep ?_ ?_ | (first | omega | (simp only [RowOk.lo, nx]; first | done | omega))))⟩
      rw [hc, hf, hft]; rfl
  have c1 : (o.kind == 1) = false := by simp [k1]
  by_cases t6 : t.kind = 6
  · have c6 : (t.kind != 6) = false := by simp [t6]
    by_cases k2 : o.kind = 2
    · have c2 : (o.kind == 2) = true := by simp [k2]
      have hRt : RS t := by
        have : ∀ (ps : List DStp) (s t : DSch), RS s → typS ps s = some t → RS t := by
          intro ps
          induction ps with
          | nil => intro s t h1 h2; injection h2 with h2; subst h2; exact h1
          | cons p ps ih =>
            intro s t h1 h2
            rw [typS_cons] at h2
            cases hq : stepT s p with
            | none => rw [hq] at h2; cases h2
            | some u => rw [hq] at h2; exact ih u t (h1.step hq) h2
        exact this _ _ _ hRS ht
      have hp1 := hRt.here.2 t6
      have hp0 : 0 < t.parts.length := by omega
      have g0 := getD_map encS t.parts 0 hp0
      have hp0i : (0 : Int) < (t.parts.length : Int) := by omega
      (simp (disch := first | decide | omega | (simp only [nx]; first | done | omega)) only [go_sem, tupS, Option.getD_some, Option.isSome_some, c1, c2, c6]; (repeat with_reducible refine aI ?_))
      refine ddraw_mk 8 (by kernel_rfl) ?_
      (simp (disch := first | decide | omega | (simp only [nx]; first | done | omega)) only [go_sem, opCs, g0, hp0i]; (repeat with_reducible refine aI ?_))
      have hto0 : okS t.parts[0] := ((okS_eq t).1 hto).2.2.2.2 _ (List.getElem_mem hp0)
      refine dqgo_mk (fitsTop_d o.val t.parts[0] h.val hto0) ?_
      have hf : fitO o t = fitsTop o.val t.parts[0] := by rw [fitO, if_neg k1, if_pos t6, if_pos k2, getD_at hp0]
      cases hft : fitsTop o.val t.parts[0] with
      | true =>
        (simp (disch := first | decide | omega | (simp only [nx]; first | done | omega)) only [go_sem]; (repeat with_reducible refine aI ?_))
        refine ⟨?_, (by (repeat' first | assumption | exact St.Sub.refl _ | exact RowOk.sub (by assumption) (by assumption) | refine St.Sub.trans ?_ (RowOk.sub (by assumption) (by assumption)) | refine St.Sub.add ?_ ?_ _ | refine St.Sub.set ?_ ?_ ?_ _ | refine St.Sub.keep ?_ ?_ | refine St.WF.leave ?_ _ | refine St.WF.add ?_ _ | refine St.WF.set ?_ ?_ _ | refine St.WF.grow ?_ _ _ _ | refine St.WF.keep ?_ ?_ | (first | omega | (simp only [RowOk.lo, nx]; first | done | omega))))⟩
        rw [hc, hf, hft]; rfl
      | false =>
        (simp (disch := first | decide | omega | (simp only [nx]; first | done | omega)) only [go_sem]; (repeat with_reducible refine aI ?_))
        refine ⟨?_, (by (repeat' first | assumption | exact St.Sub.refl _ | exact RowOk.sub (by assumption) (by assumption) | refine St.Sub.trans ?_ (RowOk.sub (by assumption) (by assumption)) | refine St.Sub.add ?_ ?_ _ | refine St.Sub.set ?_ ?_ ?_ _ | refine St.Sub.keep ?_ ?_ | refine St.WF.leave ?_ _ | refine St.WF.add ?_ _ | refine St.WF.set ?_ ?_ _ | refine St.WF.grow ?_ _ _ _ | refine St.WF.keep ?_ ?_ | (first | omega | (simp only [RowOk.lo, nx]; first | done | omega))))⟩
        rw [hc, hf, hft]; rfl
    · have c2 : (o.kind == 2) = false := by simp [k2]
      (simp (disch := first | decide | omega | (simp only [nx]; first | done | omega)) only [go_sem, tupS, Option.getD_some, Option.isSome_some, c1, c2, c6]; (repeat with_reducible refine aI ?_))
      refine ⟨?_, (by (repeat' first | assumption | exact St.Sub.refl _ | exact RowOk.sub (by assumption) (by assumption) | refine St.Sub.trans ?_ (RowOk.sub (by assumption) (by assumption)) | refine St.Sub.add ?_ ?_ _ | refine St.Sub.set ?_ ?_ ?_ _ | refine St.Sub.keep ?_ ?_ | refine St.WF.leave ?_ _ | refine St.WF.add ?_ _ | refine St.WF.set ?_ ?_ _ | refine St.WF.grow ?_ _ _ _ | refine St.WF.keep ?_ ?_ | (first | omega | (simp only [RowOk.lo, nx]; first | done | omega))))⟩
      have hf : fitO o t = true := by rw [fitO, if_neg k1, if_pos t6, if_neg k2]
      rw [hc, hf]; rfl
  · have c6 : (t.kind != 6) = true := by simp [t6]
    (simp (disch := first | decide | omega | (simp only [nx]; first | done | omega)) only [go_sem, tupS, Option.getD_some, Option.isSome_some, c1, c6]; (repeat with_reducible refine aI ?_))
    refine ⟨?_, (by (repeat' first | assumption | exact St.Sub.refl _ | exact RowOk.sub (by assumption) (by assumption) | refine St.Sub.trans ?_ (RowOk.sub (by assumption) (by assumption)) | refine St.Sub.add ?_ ?_ _ | refine St.Sub.set ?_ ?_ ?_ _ | refine St.Sub.keep ?_ ?_ | refine St.WF.leave ?_ _ | refine St.WF.add ?_ _ | refine St.WF.set ?_ ?_ _ | refine St.WF.grow ?_ _ _ _ | refine St.WF.keep ?_ ?_ | (first | omega | (simp only [RowOk.lo, nx]; first | done | omega))))⟩
    have hf : fitO o t = false := by rw [fitO, if_neg k1, if_neg t6]
    rw [hc, hf]; rfl
end Go.Proofs.YtjjhjhjphhpeiaaGreatDoor

namespace Go.Proofs.YtjjhjhjphhpeiaaGreatDoor
open Go.RowKit
def mdV (o : DOp) (x : DVal) : DVal := if o.kind = 1 then o.val else lsV o x
def apV (o : DOp) (v : DVal) : DVal := match getV o.path v with
  | some x => chV (fun _ => mdV o x) o.path v
  | none => v
set_option maxRecDepth 200000 in
set_option maxHeartbeats 8000000 in
theorem made_o {S : St} {K : D → St → Prop} (o : DOp) (x : DVal) (ko kx : Nat) (a b c ca cb cc : Nat) {zn zi zp : List D} (h : OkO o) (hko : S.ob ko = some (.box 44 (opCs .no o))) (hkx : S.ob kx = some (.box 29 (ownV x a b c ca cb cc).cells)) (hO : OV S x a b c ca cb cc zn zi zp)
    (hx : o.kind ≠ 1 → x.kind = 6 ∧ x.parts.length = x.ids.length ∧ x.ids.length ≤ 1000000 ∧ x.names.length ≤ 1000000)
    (hK : ∀ T, Fz (fun j => j ≠ a ∧ j ≠ b ∧ j ≠ c) S T → T.WF → K (encV (mdV o x)) T) :
    DCalls Tryz.prog 121 [.loc ko 0, .loc kx 0] S K := by
  refine DCalls.thaw ?_
  refine dcalls_inline mixed Tryz.func121 rfl (fun _ _ => by kernel_rfl) (rs := [.cell 2 29]) rfl (by kernel_rfl) (fun hS => ?_)
  have l1 := hS.lt hO.obn
  have l2 := hS.lt hO.obi
  have l3 := hS.lt hO.obp
  have l4 := hS.lt hko
  have l5 := hS.lt hkx
  have e1 : ko ≠ S.next := by omega
  have e2 : kx ≠ S.next := by omega
  have hwt := h.wt
  by_cases k1 : o.kind = 1
  · have c1 : (o.kind == 1) = true := by simp [k1]
    (simp (disch := first | decide | omega | (simp only [nx]; first | done | omega)) only [go_sem, e1, e2, hko, hkx, c1, opCs]; (repeat with_reducible refine aI ?_))
    refine ⟨_, _, Thaw.refl _ _ _, ?_⟩
    have hm : mdV o x = o.val := by rw [mdV, if_pos k1]
    rw [hm] at hK
    refine hK _ (((Fz.refl _ S).add hS).set hS (.inr (Nat.le_refl _))) ((hS.add _).set (by show S.next < S.next + 1; omega) _)
  · have c1 : (o.kind == 1) = false := by simp [k1]
    obtain ⟨x6, xl, xn, xm⟩ := hx k1
    have hm : mdV o x = lsV o x := by rw [mdV, if_neg k1]
    rw [hm] at hK
    (simp (disch := first | decide | omega | (simp only [nx]; first | done | omega)) only [go_sem, e1, e2, hko, hkx, c1, opCs]; (repeat with_reducible refine aI ?_))
    refine list_o o x a b c ca cb cc (hO.add hS) x6 xl xn (by omega) xm fun T b' c' cb' cc' zi' zp' hF hT hb' hc' hO1 => ?_
    have hn := hF.next
    simp only [add_next] at hn hb' hc'
    have u2 := hF.ob S.next _ ⟨by omega, by omega⟩ (by (first | (simp (disch := first | decide | omega | (simp only [nx]; first | done | omega)) only [go_sem]; first | done | rfl) | rfl))
    (simp (disch := first | decide | omega | (simp only [nx]; first | done | omega)) only [go_sem, u2]; (repeat with_reducible refine aI ?_))
    refine ⟨_, _, thawOV (hO1.set (k := S.next) (by omega) (by omega) (by omega)), ?_⟩
    refine hK _ ?_ ((((hT.set (by omega) _).drop _).drop _).drop _)
    have h0 : Fz (fun j => j ≠ a ∧ j ≠ b ∧ j ≠ c) S T := ((Fz.refl _ S).add hS).trans (hF.mono fun j hj => hj.2)
    have d2 : ¬ (b' ≠ a ∧ b' ≠ b ∧ b' ≠ c) ∨ S.next ≤ b' := by rcases hb' with rfl | hb'; exact .inl (fun h => h.2.1 rfl); exact .inr (by omega)
    have d3 : ¬ (c' ≠ a ∧ c' ≠ b ∧ c' ≠ c) ∨ S.next ≤ c' := by rcases hc' with rfl | hc'; exact .inl (fun h => h.2.2 rfl); exact .inr (by omega)
    exact (((h0.set hS (.inr (Nat.le_refl _))).drop hS (.inl fun h => h.1 rfl)).drop hS d2).drop hS d3
set_option maxRecDepth 200000 in
set_option maxHeartbeats 8000000 in
theorem apply_o (o : DOp) (v : DVal) (h : OkO o) (hok : okV v) (hw : v.weight ≤ 1000000) (hw2 : (apV o v).weight ≤ 1000000)
    (hx : ∀ x, getV o.path v = some x → o.kind ≠ 1 → x.kind = 6 ∧ x.parts.length = x.ids.length ∧ x.ids.length ≤ 1000000 ∧ x.names.length ≤ 1000000) :
    DPure Tryz.prog 77 [encO o, encV v] (encV (apV o v)) := by
  have hpl := h.path
  refine dpure_of_dwp mixed Tryz.func77 rfl (fun _ _ => by kernel_rfl) (rs := [.cell 4 29]) rfl (by kernel_rfl) (closed_encV _) (fun S hS => ?_)
  (simp (disch := first | decide | omega | (simp only [nx]; first | done | omega)) only [go_sem, opCs]; (repeat with_reducible refine aI ?_))
  have hFa : Fz (fun _ => True) S (((S.add (.box 44 (opCs .no o))).add (.box 29 (encV v).cells)).add (.box 29 [.v (.int .i64 0), .v (.int .i64 0), .v (.string ⟨#[]⟩), .sl .full [], .sl .full [], .sl .full []])) := (((Fz.refl _ S).add hS).add hS).add hS
  refine get_o v o.path .no hok (by omega) (by omega) (fun T hg hF hT => ?_) (fun T u a b c ca cb cc zn zi zp hg hF hT ha hb hc hO => ?_)
  · have hn := hF.next
    simp only [add_next] at hn
    have u2 : T.ob S.next = some (.box 44 (opCs .no o)) := hF.ob S.next _ trivial (by (first | (simp (disch := first | decide | omega | (simp only [nx]; first | done | omega)) only [go_sem, opCs]; first | done | rfl) | rfl))
    have u3 := hF.ob (S.next + 1) _ trivial (by (first | (simp (disch := first | decide | omega | (simp only [nx]; first | done | omega)) only [go_sem]; first | done | rfl) | rfl))
    have u4 := hF.ob (S.next + 1 + 1) _ trivial (by (first | (simp (disch := first | decide | omega | (simp only [nx]; first | done | omega)) only [go_sem]; first | done | rfl) | rfl))
    have e1 : S.next ≠ T.next := by omega
    have e2 : S.next + 1 ≠ T.next := by omega
    have e3 : S.next + 1 + 1 ≠ T.next := by omega
    (simp (disch := first | decide | omega | (simp only [nx]; first | done | omega)) only [go_sem, zCells, u2, u3, u4, e1, e2, e3]; (repeat with_reducible refine aI ?_))
    refine ⟨?_, ?_⟩
    rotate_left
    · have hz := (((hFa.trans hF).add hS (o := .box 29 zCells)).set hS (k := T.next) (o := .box 29 zCells) (.inr (by omega))).set hS (k := S.next + 1 + 1) (o := .box 29 (encV v).cells) (.inr (by omega))
      exact ⟨hz.next, fun j o' e => hz.ob j o' trivial e⟩
    rw [frz_encV, apV, hg]
  · have hn := hF.next
    simp only [add_next] at hn ha hb hc
    have u2 : T.ob S.next = some (.box 44 (opCs .no o)) := hF.ob S.next _ trivial (by (first | (simp (disch := first | decide | omega | (simp only [nx]; first | done | omega)) only [go_sem, opCs]; first | done | rfl) | rfl))
    have u3 := hF.ob (S.next + 1) _ trivial (by (first | (simp (disch := first | decide | omega | (simp only [nx]; first | done | omega)) only [go_sem]; first | done | rfl) | rfl))
    have u4 := hF.ob (S.next + 1 + 1) _ trivial (by (first | (simp (disch := first | decide | omega | (simp only [nx]; first | done | omega)) only [go_sem]; first | done | rfl) | rfl))
    have e1 : S.next ≠ T.next := by omega
    have e2 : S.next + 1 ≠ T.next := by omega
    have e3 : S.next + 1 + 1 ≠ T.next := by omega
    (simp (disch := first | decide | omega | (simp only [nx]; first | done | omega)) only [go_sem, u2, u3, u4, e1, e2, e3]; (repeat with_reducible refine aI ?_))
    obtain ⟨T1, hT1e⟩ : ∃ T1, (T.add (.box 29 [.v (.int .i64 0), .v (.int .i64 0), .v (.string ⟨#[]⟩), .sl .full [], .sl .full [], .sl .full []])).set T.next (.box 29 (ownV u a b c ca cb cc).cells) = T1 := ⟨_, rfl⟩
    have hT1 : T1.WF := by rw [← hT1e]; exact (hT.add _).set (by show T.next < T.next + 1; omega) _
    have hF1 : Fz (fun _ => True) T T1 := by rw [← hT1e]; exact ((Fz.refl _ T).add hT).set hT (.inr (Nat.le_refl _))
    have hn1 : T1.next = T.next + 1 := by rw [← hT1e]; rfl
    have w2 := hF1.ob _ _ trivial u2
    have w3 := hF1.ob _ _ trivial u3
    have w4 := hF1.ob _ _ trivial u4
    have w5 : T1.ob T.next = some (.box 29 (ownV u a b c ca cb cc).cells) := by rw [← hT1e]; (first | (simp (disch := first | decide | omega | (simp only [nx]; first | done | omega)) only [go_sem]; first | done | rfl) | rfl)
    have hO1 := hO.fz hF1
    rw [hT1e]
    have hsome : (getV o.path v).isSome = true := by rw [hg]; rfl
    have hap : apV o v = chV (fun _ => mdV o u) o.path v := by rw [apV, hg]
    have hput := put_d v (mdV o u) o.path .no hok (by omega) (by omega) (by rw [← hap]; exact hw2)
    rw [hsome, ← hap] at hput
    have la := hT1.lt hO1.obn
    have lb := hT1.lt hO1.obi
    have lc := hT1.lt hO1.obp
    have hq : ∀ j, j < S.next + 1 + 1 + 1 → j ≠ a ∧ j ≠ b ∧ j ≠ c := fun j hj => ⟨by omega, by omega, by omega⟩
    have fin : ∀ X : St, Fz (fun j => j < S.next) T1 X → S.Sub X := fun X hX => ⟨by have := hX.next; omega, fun j o' e => hX.ob j o' (hS.lt e) ((hFa.trans hF).trans hF1 |>.ob j o' trivial e)⟩
    refine ddraw_any (fun S' => S'.ob (S.next + 1) = some (.box 29 (encV v).cells) ∧ S'.ob S.next = some (.box 44 (opCs .no o))) 12 (by (first | (simp (disch := first | decide | omega | (simp only [nx]; first | done | omega)) only [go_sem, w2, w3]; first | done | rfl) | rfl)) (by kernel_rfl) ?_
    (refine s_take 0 rfl (by kernel_rfl) (by kernel_rfl) (v := ?v1) (fun S' hz => dquietR_of ?h1) <| s_take 1 rfl (by kernel_rfl) (by kernel_rfl) (v := ?v2) (fun S' hz => dquietR_of ?h2) <| s_take 3 rfl (by kernel_rfl) (by kernel_rfl) (v := ?v3) (fun S' hz => dquietR_of ?h3) <| s_take 4 rfl (by kernel_rfl) (by kernel_rfl) (v := ?v4) (fun S' hz => dquietR_of ?h4) <| ?k4; (case h1 | h2 | h3 | h4 => ((simp (disch := first | decide | omega | (simp only [nx]; first | done | omega)) only [go_sem, opCs, hz]; (repeat with_reducible refine aI ?_)); first | done | exact rfl | omega)))
    refine s_split [2, 9] (by kernel_rfl) (by simp) ?_
    intro j hj
    simp only [List.mem_cons, List.not_mem_nil, or_false] at hj
    rcases hj with rfl | rfl
    · refine s_op rfl ?_
      (simp (disch := first | decide | omega | (simp only [nx]; first | done | omega)) only [go_sem]; (repeat with_reducible refine aI ?_))
      refine made_o o u S.next T.next a b c ca cb cc h w2 w5 hO1 (hx u hg) fun T2 hF2 hT2 => ?_
      have hn2 := hF2.next
      have x2 := hF2.ob _ _ (hq _ (by omega)) w2
      have x3 := hF2.ob _ _ (hq _ (by omega)) w3
      have x4 := hF2.ob _ _ (hq _ (by omega)) w4
      refine ⟨⟨x3, x2⟩, ?_⟩
      (refine s_take 5 rfl (by kernel_rfl) (by kernel_rfl) (v := ?v5) (fun S' hz => dquietR_of ?h5) ?k5; (case h5 => ((simp (disch := first | decide | omega | (simp only [nx]; first | done | omega)) only [go_sem, hz]; (repeat with_reducible refine aI ?_)); refine dqgo_mk (hput) ?_; exact rfl)))
      (refine s_take 6 rfl (by kernel_rfl) (by kernel_rfl) (v := ?v6) (fun S' hz => dquietR_of ?h6) <| s_take 7 rfl (by kernel_rfl) (by kernel_rfl) (v := ?v7) (fun S' hz => dquietR_of ?h7) <| s_take 8 rfl (by kernel_rfl) (by kernel_rfl) (v := ?v8) (fun S' hz => dquietR_of ?h8) <| ?k8; (case h6 | h7 | h8 => ((simp (disch := first | decide | omega | (simp only [nx]; first | done | omega)) only [go_sem, hz]; (repeat with_reducible refine aI ?_)); first | done | exact rfl | omega)))
      have f1 : S.next ≠ T2.next := by omega
      have f2 : S.next + 1 ≠ T2.next := by omega
      have f3 : S.next + 1 + 1 ≠ T2.next := by omega
      (refine s_split [9] (by kernel_rfl) (by simp) ?_; intro j_ hj_; obtain rfl : j_ = 9 := (by simpa using hj_); clear hj_; refine s_op rfl ?_; (simp (disch := first | decide | omega | (simp only [nx]; first | done | omega)) only [go_sem, x2, x3, f1, f2]; (repeat with_reducible refine aI ?_)))
      (refine s_split [10] (by kernel_rfl) (by simp) ?_; intro j_ hj_; obtain rfl : j_ = 10 := (by simpa using hj_); clear hj_; refine s_op rfl ?_; (simp (disch := first | decide | omega | (simp only [nx]; first | done | omega)) only [go_sem, x2, x3, f1, f2]; (repeat with_reducible refine aI ?_)))
      (refine s_take 11 rfl (by kernel_rfl) (by kernel_rfl) (v := ?v9) (fun S' hz => dquietR_of ?h9) ?k9; (case h9 => ((simp (disch := first | decide | omega | (simp only [nx]; first | done | omega)) only [go_sem, hz]; (repeat with_reducible refine aI ?_)); first | done | exact rfl | omega)))
      (refine s_done (by kernel_rfl) ?_; (simp (disch := first | decide | omega | (simp only [nx]; first | done | omega)) only [go_sem, x4, f3]; (repeat with_reducible refine aI ?_)))
      refine ⟨?_, fin _ ?_⟩
      · rw [frz_encV]
      · have hF2' : Fz (fun j => j < S.next) T1 T2 := hF2.mono fun j hj => hq j (by omega)
        exact ((hF2'.add hT1).set hT1 (.inr hn2)).set hT1 (.inl (by omega))
    · refine s_op rfl ?_
      have f1 : S.next ≠ T1.next := by omega
      have f2 : S.next + 1 ≠ T1.next := by omega
      (simp (disch := first | decide | omega | (simp only [nx]; first | done | omega)) only [go_sem, w2, w3, f1, f2]; (repeat with_reducible refine aI ?_))
      refine s_split [2] (by kernel_rfl) (by simp) ?_
      intro j hj
      obtain rfl : j = 2 := by simpa using hj
      refine s_op rfl ?_
      (simp (disch := first | decide | omega | (simp only [nx]; first | done | omega)) only [go_sem]; (repeat with_reducible refine aI ?_))
      have g1 : T.next ≠ T1.next := by omega
      refine made_o o u S.next T.next a b c ca cb cc h (by (first | (simp (disch := first | decide | omega | (simp only [nx]; first | done | omega)) only [go_sem, w2, f1]; first | done | rfl) | rfl)) (by (first | (simp (disch := first | decide | omega | (simp only [nx]; first | done | omega)) only [go_sem, w5, g1]; first | done | rfl) | rfl)) (hO1.add hT1) (hx u hg) fun T2 hF2 hT2 => ?_
      have hn2 := hF2.next
      simp only [add_next] at hn2
      have f3 : S.next + 1 + 1 ≠ T1.next := by omega
      have x2 : T2.ob S.next = some (.box 44 (opCs .no o)) := hF2.ob _ _ (hq _ (by omega)) (by (first | (simp (disch := first | decide | omega | (simp only [nx]; first | done | omega)) only [go_sem, w2, f1]; first | done | rfl) | rfl))
      have x3 : T2.ob (S.next + 1) = some (.box 29 (encV v).cells) := hF2.ob _ _ (hq _ (by omega)) (by (first | (simp (disch := first | decide | omega | (simp only [nx]; first | done | omega)) only [go_sem, w3, f2]; first | done | rfl) | rfl))
      have x4 := hF2.ob (S.next + 1 + 1) _ (hq _ (by omega)) (by (first | (simp (disch := first | decide | omega | (simp only [nx]; first | done | omega)) only [go_sem, w4, f3]; first | done | rfl) | rfl))
      have x8 := hF2.ob T1.next _ ⟨by omega, by omega, by omega⟩ (by (first | (simp (disch := first | decide | omega | (simp only [nx]; first | done | omega)) only [go_sem]; first | done | rfl) | rfl))
      refine ⟨⟨x3, x2⟩, ?_⟩
      (refine s_take 5 rfl (by kernel_rfl) (by kernel_rfl) (v := ?v10) (fun S' hz => dquietR_of ?h10) ?k10; (case h10 => ((simp (disch := first | decide | omega | (simp only [nx]; first | done | omega)) only [go_sem, hz]; (repeat with_reducible refine aI ?_)); refine dqgo_mk (hput) ?_; exact rfl)))
      (refine s_take 6 rfl (by kernel_rfl) (by kernel_rfl) (v := ?v11) (fun S' hz => dquietR_of ?h11) <| s_take 7 rfl (by kernel_rfl) (by kernel_rfl) (v := ?v12) (fun S' hz => dquietR_of ?h12) <| s_take 8 rfl (by kernel_rfl) (by kernel_rfl) (v := ?v13) (fun S' hz => dquietR_of ?h13) <| ?k13; (case h11 | h12 | h13 => ((simp (disch := first | decide | omega | (simp only [nx]; first | done | omega)) only [go_sem, hz]; (repeat with_reducible refine aI ?_)); first | done | exact rfl | omega)))
      (refine s_split [10] (by kernel_rfl) (by simp) ?_; intro j_ hj_; obtain rfl : j_ = 10 := (by simpa using hj_); clear hj_; refine s_op rfl ?_; (simp (disch := first | decide | omega | (simp only [nx]; first | done | omega)) only [go_sem, x2, x3, x8, f1, f2]; (repeat with_reducible refine aI ?_)))
      (refine s_take 11 rfl (by kernel_rfl) (by kernel_rfl) (v := ?v14) (fun S' hz => dquietR_of ?h14) ?k14; (case h14 => ((simp (disch := first | decide | omega | (simp only [nx]; first | done | omega)) only [go_sem, hz]; (repeat with_reducible refine aI ?_)); first | done | exact rfl | omega)))
      (refine s_done (by kernel_rfl) ?_; (simp (disch := first | decide | omega | (simp only [nx]; first | done | omega)) only [go_sem, x4, f3]; (repeat with_reducible refine aI ?_)))
      refine ⟨?_, fin _ ?_⟩
      · rw [frz_encV]
      · have hF2' : Fz (fun j => j < S.next) T1 T2 := ((Fz.refl _ T1).add hT1).trans (hF2.mono fun j hj => hq j (by omega))
        exact (hF2'.set hT1 (.inr (Nat.le_refl _))).set hT1 (.inl (by omega))
end Go.Proofs.YtjjhjhjphhpeiaaGreatDoor

namespace Go.Proofs.YtjjhjhjphhpeiaaGreatDoor
open Go.RowKit
theorem getV_ok : ∀ (p : List DStp) {v u : DVal}, okV v → getV p v = some u → okV u
  | [], v, u, h, e => by injection e with e; exact e ▸ h
  | p :: ps, v, u, h, e => by
    rw [getV_cons] at e
    split at e
    · rename_i hin
      have hpl : plN v p < v.parts.length := by have := hin.1; have := hin.2; unfold plN; omega
      exact getV_ok ps (((okV_eq v).1 h).2.2.2.2.2.2.2.2 _ (by rw [getD_at hpl]; exact List.getElem_mem _)) e
    · cases e
end Go.Proofs.YtjjhjhjphhpeiaaGreatDoor

namespace Go.Proofs.YtjjhjhjphhpeiaaGreatDoor
open Go.RowKit
theorem chkO_zero {o : DOp} {s : DSch} (h : chkO o s = 0) : rightO o = true ∧ rightS 5 s = true ∧ ∃ t, typS o.path s = some t ∧ fitO o t = true := by
  unfold chkO at h
  split at h
  · rename_i h1
    split at h
    · rename_i t ht
      split at h
      · rename_i hf
        exact ⟨h1.1, h1.2, t, ht, hf⟩
      · omega
    · omega
  · omega
theorem rightO_id {o : DOp} (h : rightO o = true) (h2 : o.kind = 2) : o.id ≠ 0 := by
  unfold rightO at h
  rw [if_neg (by omega), if_pos h2] at h
  simp only [Bool.and_eq_true, decide_eq_true_eq] at h
  exact h.2.1.1
theorem fitO_made {o : DOp} {t : DSch} {x : DVal} (hr : rightO o = true) (hf : fitO o t = true) (hx : GV x t) (ht : RS t) : GV (mdV o x) t ∧ (o.kind ≠ 1 → t.kind = 6) := by
  unfold fitO at hf
  unfold mdV
  by_cases k1 : o.kind = 1
  · rw [if_pos k1] at hf ⊢
    exact ⟨(fitsTop_iff.1 hf).2, fun h => absurd k1 h⟩
  · rw [if_neg k1] at hf ⊢
    split at hf
    · rename_i t6
      refine ⟨hx.ls ht t6 fun k2 => ⟨rightO_id hr k2, ?_⟩, fun _ => t6⟩
      rw [if_pos k2] at hf
      exact (fitsTop_iff.1 hf).2
    · cases hf
theorem apV_fits {o : DOp} {s : DSch} {v : DVal} (h : GV v s) (hc : chkO o s = 0) : GV (apV o v) s := by
  obtain ⟨hr, hs, t, ht, hf⟩ := chkO_zero hc
  obtain ⟨hS, _⟩ := RS.of_top hs
  unfold apV
  cases hg : getV o.path v with
  | none => exact h
  | some x =>
    obtain ⟨g1, g2, _⟩ := GV.get o.path h hS ht hg
    exact GV.put o.path h hS ht hg (fitO_made hr hf g1 g2).1
theorem apV_list {o : DOp} {s : DSch} {v x : DVal} (h : GV v s) (hc : chkO o s = 0) (hg : getV o.path v = some x) (k1 : o.kind ≠ 1) : x.kind = 6 ∧ x.parts.length = x.ids.length ∧ x.ids.length ≤ 12 ∧ x.names.length = 0 := by
  obtain ⟨hr, hs, t, ht, hf⟩ := chkO_zero hc
  obtain ⟨hS, _⟩ := RS.of_top hs
  obtain ⟨g1, g2, _⟩ := GV.get o.path h hS ht hg
  have t6 := (fitO_made hr hf g1 g2).2 k1
  have hl := g1.list t6
  exact ⟨hl.kind, hl.len, hl.most, by rw [hl.names]; rfl⟩
def wtK : Nat → Nat
  | 0 => 0
  | k + 1 => 13 + 12 * wtK k
theorem weights_le (l : List DVal) (m : Nat) (h : ∀ p ∈ l, p.weight ≤ m) : DVal.weights l ≤ l.length * m := by
  induction l with
  | nil => simp [DVal.weights]
  | cons a l ih =>
    have h1 := h a (by simp)
    have h2 := ih fun p hp => h p (by simp [hp])
    simp only [DVal.weights, List.length_cons, Nat.add_mul]
    omega
theorem GV.weight : ∀ (k : Nat) {v : DVal} {s : DSch}, s.depth ≤ k → GV v s → v.weight ≤ wtK k
  | 0, v, s, hk, h => by have := s.depth_pos; omega
  | k + 1, v, s, hk, h => by
    obtain ⟨b1, b2, _, _⟩ := here_parts h.here_
    have hh := h.rv.here
    unfold bad1 at b1
    unfold bad2 at b2
    have hn : v.names.length + v.ids.length ≤ 12 := by
      by_cases h5 : v.kind = 5
      · have := hh.2.1 (by omega); omega
      · have := hh.1 h5; omega
    have h1 := weights_le v.parts (wtK k) fun p hp => by
      obtain ⟨i, hi, rfl⟩ := List.getElem_of_mem hp
      have ha := h.at_ hi
      have hg := h.part hi
      rw [getD_at ha] at hg
      exact GV.weight k (by have := DSch.depth_part (List.getElem_mem ha); omega) hg
    have h2 : v.parts.length * wtK k ≤ 12 * wtK k := Nat.mul_le_mul_right _ (by omega)
    rw [v.weight_eq]
    show _ ≤ 13 + 12 * wtK k
    omega
theorem wtK_mono {a b : Nat} (h : a ≤ b) : wtK a ≤ wtK b := by
  induction b generalizing a with
  | zero => have : a = 0 := by omega
            subst this; exact Nat.le_refl _
  | succ b ih =>
    cases a with
    | zero => exact Nat.zero_le _
    | succ a => have := ih (a := a) (by omega); simp only [wtK]; omega
theorem GV.wt {v : DVal} {s : DSch} (h : GV v s) (hs : rightS 5 s = true) : v.weight ≤ 1000000 := by
  have h1 := GV.weight s.depth (Nat.le_refl _) h
  have h2 := wtK_mono (RS.of_top hs).2
  have h3 : wtK 5 = 294073 := by decide
  omega
theorem okV_parts {v : DVal} (h : okV v) {ps : List DVal} (hl : ps.length ≤ 140737488351232) (hp : ∀ p ∈ ps, okV p) : okV (v.withParts ps) := by
  obtain ⟨o1, o2, o3, o4, o5, o6, o7, o8, o9⟩ := (okV_eq v).1 h
  exact (okV_eq _).2 ⟨o1, o2, o3, o4, o5, o6, o7, hl, hp⟩
theorem chV_ok {y : DVal} (hy : okV y) : ∀ (ps : List DStp) {v : DVal}, okV v → okV (chV (fun _ => y) ps v)
  | [], v, _ => hy
  | p :: ps, v, h => by
    rw [chV]
    split
    · rename_i hin
      obtain ⟨o1, o2, o3, o4, o5, o6, o7, o8, o9⟩ := (okV_eq v).1 h
      have hpl : plN v p < v.parts.length := by have := hin.1; have := hin.2; unfold plN; omega
      refine okV_parts h (by rw [List.length_set]; exact o8) fun q hq => ?_
      rcases List.mem_or_eq_of_mem_set hq with hq | rfl
      · exact o9 q hq
      · rw [getD_at hpl]
        exact chV_ok hy ps (o9 _ (List.getElem_mem hpl))
    · exact h
theorem okV_ofList {v : DVal} (h : okV v) {is : List Nat} {ps : List DVal} (h1 : ∀ i ∈ is, U64 (i : Int)) (h2 : is.length ≤ 140737488351232) (h3 : ps.length ≤ 140737488351232) (h4 : ∀ p ∈ ps, okV p) : okV (v.ofList is ps) := by
  obtain ⟨o1, o2, o3, o4, o5, o6, o7, o8, o9⟩ := (okV_eq v).1 h
  exact (okV_eq _).2 ⟨o1, o2, o3, o4, o5, h1, h2, h3, h4⟩
theorem plV_ok {v x : DVal} (h : okV v) (hx : okV x) {id after : Nat} (hid : U64 (id : Int)) (hl : v.parts.length = v.ids.length) (hn : v.ids.length ≤ 1000000) : okV (plV v id after x) := by
  obtain ⟨o1, o2, o3, o4, o5, o6, o7, o8, o9⟩ := (okV_eq v).1 h
  refine okV_ofList h (fun i hi => ?_) (by rw [ins_len _ _ (plK_le v after)]; omega) (by rw [ins_len _ _ (by rw [hl]; exact plK_le v after)]; omega) fun p hp => ?_
  · rcases List.mem_cons.1 ((perm_ins v.ids id (plK v after)).mem_iff.1 hi) with e | e
    · rw [e]; exact hid
    · exact o6 i e
  · rcases List.mem_cons.1 ((perm_ins v.parts x (plK v after)).mem_iff.1 hp) with e | e
    · rw [e]; exact hx
    · exact o9 p e
theorem tkV_ok {v : DVal} (h : okV v) (k : Nat) : okV (tkV v k) := by
  obtain ⟨o1, o2, o3, o4, o5, o6, o7, o8, o9⟩ := (okV_eq v).1 h
  have s1 := sub_del v.ids k
  have s2 := sub_del v.parts k
  exact okV_ofList h (fun i hi => o6 i (s1.subset hi)) (by have := s1.length_le; omega) (by have := s2.length_le; omega) fun p hp => o9 p (s2.subset hp)
theorem lsV_ok {o : DOp} {v : DVal} (h : okV v) (ho : OkO o) (hl : v.parts.length = v.ids.length) (hn : v.ids.length ≤ 1000000) : okV (lsV o v) := by
  unfold lsV
  split
  · split
    · exact plV_ok h ho.val ho.id hl hn
    · exact h
  · split
    · exact h
    · rename_i hm
      have hm : o.id ∈ v.ids := Classical.not_not.1 hm
      have hk : elK o v < v.ids.length := ix_lt hm
      split
      · have hpl : elK o v < v.parts.length := by omega
        refine plV_ok (tkV_ok h _) ?_ ho.id (by rw [tkV_plen hpl, tkV_ilen hk, hl]) (by rw [tkV_ilen hk]; omega)
        rw [getD_at hpl]
        exact ((okV_eq v).1 h).2.2.2.2.2.2.2.2 _ (List.getElem_mem hpl)
      · exact tkV_ok h _
theorem apV_ok {o : DOp} {s : DSch} {v : DVal} (h : GV v s) (hc : chkO o s = 0) (hok : okV v) (ho : OkO o) : okV (apV o v) := by
  unfold apV
  cases hg : getV o.path v with
  | none => exact hok
  | some x =>
    refine chV_ok ?_ o.path hok
    unfold mdV
    split
    · exact ho.val
    · rename_i k1
      obtain ⟨_, h2, h3, _⟩ := apV_list h hc hg k1
      exact lsV_ok (getV_ok _ hok hg) ho h2 (by omega)
noncomputable def apS (s : DSch) (v : DVal) (o : DOp) : DVal := if chkO o s = 0 then apV o v else v
noncomputable def applyV (s : DSch) (v : DVal) (l : List DOp) : DVal := if fitsTop v s = true then l.foldl (apS s) v else v
theorem apS_fits {s : DSch} {v : DVal} {o : DOp} (h : GV v s) : GV (apS s v o) s := by
  unfold apS
  split
  · rename_i hc; exact apV_fits h hc
  · exact h
theorem apS_ok {s : DSch} {v : DVal} {o : DOp} (h : GV v s) (hok : okV v) (ho : OkO o) : okV (apS s v o) := by
  unfold apS
  split
  · rename_i hc; exact apV_ok h hc hok ho
  · exact hok
theorem fold_fits {s : DSch} : ∀ (l : List DOp) {v : DVal}, GV v s → okV v → (∀ o ∈ l, OkO o) → GV (l.foldl (apS s) v) s ∧ okV (l.foldl (apS s) v)
  | [], v, h, hok, _ => ⟨h, hok⟩
  | o :: l, v, h, hok, ho => fold_fits l (apS_fits h) (apS_ok h hok (ho o (by simp))) fun q hq => ho q (by simp [hq])
end Go.Proofs.YtjjhjhjphhpeiaaGreatDoor

namespace Go.Proofs.YtjjhjhjphhpeiaaGreatDoor
open Go.RowKit
theorem errD_zero {c : Nat} (h : c = 0) : errO c = .v .nilIface := by rw [errO, if_pos h]
theorem errD_ne {c : Nat} (h : c ≠ 0) : errO c = .ifc 62 (.v (.int .i64 (c : Int))) := by rw [errO, if_neg h]
instance : Inhabited DOp := ⟨⟨0, [], 0, 0, default⟩⟩
noncomputable def foldO (s : DSch) (v : DVal) (l : List DOp) (i : Nat) : DVal := (l.take i).foldl (apS s) v
theorem foldO_succ {s : DSch} {v : DVal} {l : List DOp} {i : Nat} (h : i < l.length) : foldO s v l (i + 1) = apS s (foldO s v l i) l[i] := by
  rw [foldO, List.take_succ_eq_append_getElem h, List.foldl_append]; rfl
theorem foldO_all {s : DSch} {v : DVal} {l : List DOp} (h : fitsTop v s = true) : foldO s v l l.length = applyV s v l := by
  rw [foldO, List.take_length, applyV, if_pos h]
set_option maxRecDepth 200000 in
set_option maxHeartbeats 8000000 in
theorem applyAll_d (s : DSch) (v : DVal) (l : List DOp) (own : Own) (hs : okS s) (hsw : s.weight ≤ 1000) (hok : okV v) (hw : v.weight ≤ 1000000) (hl : l.length ≤ 1000000) (ho : ∀ o ∈ l, OkO o) :
    DPure Tryz.prog 45 [encS s, encV v, .sl own (l.map encO)] (encV (applyV s v l)) := by
  refine dpure_of_dwp mixed Tryz.func45 rfl (fun _ _ => by kernel_rfl) (rs := [.cell 6 29]) rfl (by kernel_rfl) (closed_encV _) (fun S hS => ?_)
  (simp (disch := first | decide | omega | (simp only [nx]; first | done | omega)) only [go_sem]; (repeat with_reducible refine aI ?_))
  refine DCalls.of_pure (copyV_d v.depth v (Nat.le_refl _) hw) ?_
  (simp (disch := first | decide | omega | (simp only [nx]; first | done | omega)) only [go_sem]; (repeat with_reducible refine aI ?_))
  refine DCalls.of_pure (fitsTop_d v s hok hs) ?_
  cases hf : fitsTop v s with
  | false =>
    (simp (disch := first | decide | omega | (simp only [nx]; first | done | omega)) only [go_sem]; (repeat with_reducible refine aI ?_))
    refine ⟨?_, (by (repeat' first | assumption | exact St.Sub.refl _ | exact RowOk.sub (by assumption) (by assumption) | refine St.Sub.trans ?_ (RowOk.sub (by assumption) (by assumption)) | refine St.Sub.add ?_ ?_ _ | refine St.Sub.set ?_ ?_ ?_ _ | refine St.Sub.keep ?_ ?_ | refine St.WF.leave ?_ _ | refine St.WF.add ?_ _ | refine St.WF.set ?_ ?_ _ | refine St.WF.grow ?_ _ _ _ | refine St.WF.keep ?_ ?_ | (first | omega | (simp only [RowOk.lo, nx]; first | done | omega))))⟩
    rw [frz_encV, applyV, if_neg (by rw [hf]; simp)]
  | true =>
  obtain ⟨h1, h2⟩ := fitsTop_iff.1 hf
  (simp (disch := first | decide | omega | (simp only [nx]; first | done | omega)) only [go_sem]; (repeat with_reducible refine aI ?_))
  (refine dloop_var (fun t => List.contains [8, 18, 19, 20, 21, 22, 23, 24, 25, 26, 27, 28, 29] t) (by kernel_rfl) ?_ (l.length) (S.next + 1) (fun i => .box 29 (encV (foldO s v l i)).cells) ?_ (fun i f => i ≤ l.length ∧ f 18 = .v (.int .i64 (i : Nat))) ?_ ?_; (exact (by (repeat' first | assumption | refine St.WF.leave ?_ _ | refine St.WF.add ?_ _ | refine St.WF.set ?_ ?_ _ | refine St.WF.grow ?_ _ _ _ | refine St.WF.keep ?_ ?_ | (first | omega | (simp only [RowOk.lo, nx]; first | done | omega))))); (exact (by (first | (simp (disch := first | decide | omega | (simp only [nx]; first | done | omega)) only [go_sem]; first | done | rfl) | rfl))); (exact ⟨(by omega), (by (first | (simp (disch := first | decide | omega | (simp only [nx]; first | done | omega)) only [go_sem]; first | done | rfl) | rfl))⟩); intro i g tn hn hT hg hI; obtain ⟨le, q18⟩ := hI; have q3 := hg 3 rfl; have q4 := hg 4 rfl; have q6 := hg 6 rfl; have q16 := hg 16 rfl; have q17 := hg 17 rfl; simp (disch := first | decide | omega | (simp only [nx]; first | done | omega)) only [go_sem] at q3 q4 q6 q16 q17; clear hg; have hn' := hn; try simp only [add_next, set_next, grow_next, leave_next, drop_next] at hn')
  obtain ⟨gw, okw⟩ : GV (foldO s v l i) s ∧ okV (foldO s v l i) := fold_fits (l.take i) h2 hok fun o hom => ho o (List.mem_of_mem_take hom)
  have hnx := fun h => foldO_succ (s := s) (v := v) (l := l) (i := i) h
  have hend := foldO_all (l := l) hf
  by_cases hlt : i < l.length
  · have b1 : decide ((i : Int) < (l.length : Int)) = true := by simp; omega
    have w1 : IntKind.i64.wrap ((i : Int) + 1) = ((i + 1 : Nat) : Int) := IntWalk.i64_in _ ⟨by omega, by omega⟩
    have hoi := ho _ (List.getElem_mem hlt)
    have hsucc := hnx hlt
    have hgd := getD_map encO l i hlt
    generalize foldO s v l i = w at *
    (simp (disch := first | decide | omega | (simp only [nx]; first | done | omega)) only [go_sem, q16, q17, q18, q3, q4, b1, hgd]; (repeat with_reducible refine aI ?_))
    refine DCalls.of_pure (check_o l[i] s hoi hs hsw) ?_
    by_cases hc : chkO l[i] s = 0
    · have he := errD_zero hc
      have hap : apS s w l[i] = apV l[i] w := by rw [apS, if_pos hc]
      (simp (disch := first | decide | omega | (simp only [nx]; first | done | omega)) only [go_sem, q16, q17, q18, q3, q4, he]; (repeat with_reducible refine aI ?_))
      have hww := gw.wt h1
      have hw2 := (apV_fits gw hc).wt h1
      refine DCalls.of_pure (apply_o l[i] w hoi okw hww hw2 fun x hx k1 => ?_) ?_
      · obtain ⟨x1, x2, x3, x4⟩ := apV_list gw hc hx k1
        exact ⟨x1, x2, by omega, by omega⟩
      (simp (disch := first | decide | omega | (simp only [nx]; first | done | omega)) only [go_sem, q16, q17, q18, q3, q4, w1]; (repeat with_reducible refine aI ?_))
      rw [← hap, ← hsucc]
      (refine ⟨by omega, St.Sub.upd hn (rfl) (by (repeat' first | assumption | exact St.Sub.refl _ | exact RowOk.sub (by assumption) (by assumption) | refine St.Sub.trans ?_ (RowOk.sub (by assumption) (by assumption)) | refine St.Sub.add ?_ ?_ _ | refine St.Sub.set ?_ ?_ ?_ _ | refine St.Sub.keep ?_ ?_ | refine St.WF.leave ?_ _ | refine St.WF.add ?_ _ | refine St.WF.set ?_ ?_ _ | refine St.WF.grow ?_ _ _ _ | refine St.WF.keep ?_ ?_ | (first | omega | (simp only [RowOk.lo, nx]; first | done | omega)))), ?_⟩; refine ⟨by omega, ?_⟩; all_goals (try (first | (simp (disch := first | decide | omega | (simp only [nx]; first | done | omega)) only [go_sem, w1]; first | done | rfl) | rfl)))
    · have he := errD_ne hc
      have hap : apS s w l[i] = w := by rw [apS, if_neg hc]
      (simp (disch := first | decide | omega | (simp only [nx]; first | done | omega)) only [go_sem, q16, q17, q18, q3, q4, he, w1]; (repeat with_reducible refine aI ?_))
      refine ⟨hlt, ?_, by omega, by (first | (simp (disch := first | decide | omega | (simp only [nx]; first | done | omega)) only [go_sem, w1]; first | done | rfl) | rfl)⟩
      show St.Sub (St.set _ (S.next + 1) (Ob.box 29 (encV (foldO s v l (i + 1))).cells)) _
      rw [hsucc, hap]
      have hb : ∀ X : St, X.next ≤ tn → X.Sub ⟨tn, X.ob⟩ := fun X h => ⟨h, fun _ _ h => h⟩
      refine St.Sub.set (St.Sub.add (hb _ ?_) ?_ _) ?_ ?_ _
      · exact hn
      · exact (by (repeat' first | assumption | refine St.WF.leave ?_ _ | refine St.WF.add ?_ _ | refine St.WF.set ?_ ?_ _ | refine St.WF.grow ?_ _ _ _ | refine St.WF.keep ?_ ?_ | (first | omega | (simp only [RowOk.lo, nx]; first | done | omega))))
      · exact (by (repeat' first | assumption | refine St.WF.leave ?_ _ | refine St.WF.add ?_ _ | refine St.WF.set ?_ ?_ _ | refine St.WF.grow ?_ _ _ _ | refine St.WF.keep ?_ ?_ | (first | omega | (simp only [RowOk.lo, nx]; first | done | omega))))
      · exact hn
  · have b1 : decide ((i : Int) < (l.length : Int)) = false := by simp; omega
    have hil : i = l.length := by omega
    subst hil
    (simp (disch := first | decide | omega | (simp only [nx]; first | done | omega)) only [go_sem, q16, q17, q18, q3, q4, q6, b1]; (repeat with_reducible refine aI ?_))
    rw [hend]
    refine ⟨?_, (by (repeat' first | assumption | exact St.Sub.refl _ | exact RowOk.sub (by assumption) (by assumption) | refine St.Sub.trans ?_ (RowOk.sub (by assumption) (by assumption)) | refine St.Sub.add ?_ ?_ _ | refine St.Sub.set ?_ ?_ ?_ _ | refine St.Sub.keep ?_ ?_ | refine St.WF.leave ?_ _ | refine St.WF.add ?_ _ | refine St.WF.set ?_ ?_ _ | refine St.WF.grow ?_ _ _ _ | refine St.WF.keep ?_ ?_ | (first | omega | (simp only [RowOk.lo, nx]; first | done | omega))))⟩
    rw [frz_encV]
end Go.Proofs.YtjjhjhjphhpeiaaGreatDoor

namespace Go.Proofs.YtjjhjhjphhpeiaaGreatDoor
open Go.RowKit
structure InO (o : DOp) : Prop where
  names : ∀ p ∈ o.path, p.1.length ≤ maxLen
  val : okV o.val
  kind : I64 o.kind
  id : U64 (o.id : Int)
  after : U64 (o.after : Int)
  nums : ∀ p ∈ o.path, U64 (p.2 : Int)
def greatO (o : DOp) : Bool := greatP o.path || decide (roomV 12 o.val 300 < 0)
theorem InO.ok {o : DOp} (h : InO o) (hg : greatO o = false) : OkO o := by
  rw [greatO, Bool.or_eq_false_iff, greatP, Bool.or_eq_false_iff] at hg
  obtain ⟨⟨h1, _⟩, h2⟩ := hg
  have h1 := of_decide_eq_false h1
  have h2 := of_decide_eq_false h2
  have hw := (roomV_spec 12 o.val 300 (by omega)).1
  exact ⟨by omega, h.names, h.val, by omega, h.kind, h.id, h.after⟩
set_option maxRecDepth 200000 in
set_option maxHeartbeats 8000000 in
theorem greatO_d (o : DOp) (h : InO o) : DPure Tryz.prog 17 [encO o] (.v (.bool (greatO o))) := by
  refine dpure_of_dwp mixed Tryz.func17 rfl (fun _ _ => by kernel_rfl) (rs := [.tmp 2]) rfl (by kernel_rfl) trivial (fun S hS => ?_)
  (simp (disch := first | decide | omega | (simp only [nx]; first | done | omega)) only [go_sem, opCs]; (repeat with_reducible refine aI ?_))
  refine DCalls.of_pure (greatP_d o.path .no) ?_
  cases hp : greatP o.path with
  | true =>
    (simp (disch := first | decide | omega | (simp only [nx]; first | done | omega)) only [go_sem]; (repeat with_reducible refine aI ?_))
    refine ⟨?_, (by (repeat' first | assumption | exact St.Sub.refl _ | exact RowOk.sub (by assumption) (by assumption) | refine St.Sub.trans ?_ (RowOk.sub (by assumption) (by assumption)) | refine St.Sub.add ?_ ?_ _ | refine St.Sub.set ?_ ?_ ?_ _ | refine St.Sub.keep ?_ ?_ | refine St.WF.leave ?_ _ | refine St.WF.add ?_ _ | refine St.WF.set ?_ ?_ _ | refine St.WF.grow ?_ _ _ _ | refine St.WF.keep ?_ ?_ | (first | omega | (simp only [RowOk.lo, nx]; first | done | omega))))⟩
    rw [greatO, hp]; rfl
  | false =>
    (simp (disch := first | decide | omega | (simp only [nx]; first | done | omega)) only [go_sem]; (repeat with_reducible refine aI ?_))
    refine DCalls.of_pure (greatV_d o.val h.val) ?_
    (simp (disch := first | decide | omega | (simp only [nx]; first | done | omega)) only [go_sem]; (repeat with_reducible refine aI ?_))
    refine ⟨?_, (by (repeat' first | assumption | exact St.Sub.refl _ | exact RowOk.sub (by assumption) (by assumption) | refine St.Sub.trans ?_ (RowOk.sub (by assumption) (by assumption)) | refine St.Sub.add ?_ ?_ _ | refine St.Sub.set ?_ ?_ ?_ _ | refine St.Sub.keep ?_ ?_ | refine St.WF.leave ?_ _ | refine St.WF.add ?_ _ | refine St.WF.set ?_ ?_ _ | refine St.WF.grow ?_ _ _ _ | refine St.WF.keep ?_ ?_ | (first | omega | (simp only [RowOk.lo, nx]; first | done | omega))))⟩
    rw [greatO, hp]; rfl
def awS : DSch := .mk 6 [] [.mk 2 [] []]
def awV : DVal := .mk 6 0 [] [] [1, 2] [.mk 2 5 [] [] [] [], .mk 2 6 [] [] [] []]
def awW : DVal := .mk 6 0 [] [] [2, 1] [.mk 2 6 [] [] [] [], .mk 2 5 [] [] [] []]
def awO : DOp := ⟨4, [], 1, 2, zeroV⟩
theorem aw_int (n : Int) (h : I64 n) : okV (.mk 2 n [] [] [] []) := by
  rw [okV_eq]
  refine ⟨?_, h, by simp [DVal.s], by simp [DVal.names], by simp [DVal.names], by simp [DVal.ids], by simp [DVal.ids], by simp [DVal.parts], by simp [DVal.parts]⟩
  exact WalkArith.wf_i64 (by simp [DVal.kind])
theorem awV_ok : okV awV := by
  rw [okV_eq]
  refine ⟨WalkArith.wf_i64 (by simp [awV, DVal.kind]), WalkArith.wf_i64 (by simp [awV, DVal.n]), by simp [awV, DVal.s], by simp [awV, DVal.names], by simp [awV, DVal.names], ?_, by simp [awV, DVal.ids], by simp [awV, DVal.parts], ?_⟩
  · intro i hi
    simp only [awV, DVal.ids, List.mem_cons, List.not_mem_nil, or_false] at hi
    rcases hi with rfl | rfl <;> (unfold U64; decide)
  · intro p hp
    simp only [awV, DVal.parts, List.mem_cons, List.not_mem_nil, or_false] at hp
    rcases hp with rfl | rfl
    · exact aw_int 5 (WalkArith.wf_i64 (by omega))
    · exact aw_int 6 (WalkArith.wf_i64 (by omega))
theorem awS_ok : okS awS := by
  have h2 : okS (.mk 2 [] []) := by
    rw [okS_eq]
    exact ⟨WalkArith.wf_i64 (by simp [DSch.kind]), by simp [DSch.words], by simp [DSch.words], by simp [DSch.parts], by simp [DSch.parts]⟩
  rw [okS_eq]
  refine ⟨WalkArith.wf_i64 (by simp [awS, DSch.kind]), by simp [awS, DSch.words], by simp [awS, DSch.words], by simp [awS, DSch.parts], ?_⟩
  intro p hp
  simp only [awS, DSch.parts, List.mem_cons, List.not_mem_nil, or_false] at hp
  subst hp
  exact h2
theorem awO_ok : OkO awO := ⟨by simp [awO], by simp [awO], zeroV_ok, by simp [awO, zero_wt], WalkArith.wf_i64 (by simp [awO]), by simp only [awO]; unfold U64; decide, by simp only [awO]; unfold U64; decide⟩
theorem aw_chk : chkO awO awS = 0 := by
  have hr : rightO awO = true := by
    have hz : eqB awO.val zeroV = true := eqB_true rfl
    rw [rightO, if_neg (by decide), if_neg (by decide), if_neg (by decide), if_pos (show awO.kind = 4 from rfl), hz]
    decide
  have hs : rightS 5 awS = true := by kernel_rfl
  rw [chkO, if_pos ⟨hr, hs⟩]
  rfl
theorem aw_apply : applyV awS awV [awO] = awW := by
  have hf : fitsTop awV awS = true := by kernel_rfl
  rw [applyV, if_pos hf]
  show apS awS awV awO = awW
  rw [apS, if_pos aw_chk]
  rfl
set_option maxRecDepth 200000 in
set_option maxHeartbeats 8000000 in
theorem awake12_d : DPure Tryz.prog 18 [] (.v (.bool true)) := by
  have hap := applyAll_d awS awV [awO] .no awS_ok (by simp [awS, DSch.weight, DSch.weights]) awV_ok (by simp [awV, DVal.weight, DVal.weights]) (by simp) (by
    intro o ho
    rw [List.mem_singleton] at ho
    subst ho
    exact awO_ok)
  rw [aw_apply] at hap
  refine dpure_of_dwp mixed Tryz.func18 rfl (fun _ _ => by kernel_rfl) (rs := [.tmp 0]) rfl (by kernel_rfl) trivial (fun S hS => ?_)
  (simp (disch := first | decide | omega | (simp only [nx]; first | done | omega)) only [go_sem]; (repeat with_reducible refine aI ?_))
  refine DCalls.of_pure (DPure.weak hap (by simp only [frzL, D.frz, encV_eq, encS_eq]; rfl)) ?_
  have b22 : (((2 : Nat) : Int) == 2) = true := rfl
  have e4 : (encV awW).cells.getD 4 undefD = .sl .no [.v (.int .u64 2), .v (.int .u64 1)] := rfl
  have e5 : (encV awW).cells.getD 5 undefD = .sl .no [encV (.mk 2 6 [] [] [] []), encV (.mk 2 5 [] [] [] [])] := rfl
  (simp (disch := first | decide | omega | (simp only [nx]; first | done | omega)) only [go_sem, e4, e5, b22, DVal.n]; (repeat with_reducible refine aI ?_))
  refine ⟨?_, (by (repeat' first | assumption | exact St.Sub.refl _ | exact RowOk.sub (by assumption) (by assumption) | refine St.Sub.trans ?_ (RowOk.sub (by assumption) (by assumption)) | refine St.Sub.add ?_ ?_ _ | refine St.Sub.set ?_ ?_ ?_ _ | refine St.Sub.keep ?_ ?_ | refine St.WF.leave ?_ _ | refine St.WF.add ?_ _ | refine St.WF.set ?_ ?_ _ | refine St.WF.grow ?_ _ _ _ | refine St.WF.keep ?_ ?_ | (first | omega | (simp only [RowOk.lo, nx]; first | done | omega))))⟩
  rfl
end Go.Proofs.YtjjhjhjphhpeiaaGreatDoor
