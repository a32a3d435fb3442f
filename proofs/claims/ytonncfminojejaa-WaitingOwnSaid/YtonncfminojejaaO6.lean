/- WaitingOwn answers true for any two names and any bytes, and leaves its arguments as they were. Conditions: none but the statement's own. -/
import Derived.Test.YtonncfminojejaaO5
import Derived.Test.YtonncfminojejaaRows
set_option linter.unusedVariables false
set_option linter.unusedSimpArgs false
namespace Go.Proofs.Ytonncfminojejaa
open Go.RowKit
def addN (gs : List DGst) (size : Nat) (n : H32) (l : List H32) : Nat := if hasG gs n then 8 else if l = [] then 1 else if gs.length = size then 12 else 0
def addG (gs : List DGst) (size : Nat) (n : H32) (b : List UInt8) (l : List H32) : List DGst := if addN gs size n l = 0 then gs ++ [⟨n, b, sortH l⟩] else gs
def erO (n : Nat) : D := if n = 0 then .v .nilIface else erD (n : Int)
theorem bg1 (n : H32) (x y B : D) : (n.1.map bD ++ [x, y]).take 32 ++ [B] ++ (n.1.map bD ++ [x, y]).drop 33 = n.1.map bD ++ [B, y] := by
  have h := len_encH n
  rw [List.take_append_of_le_length (by omega), List.take_of_length_le (by omega), List.drop_append, List.drop_of_length_le (by omega), h]
  simp
theorem bg2 (n : H32) (B y L : D) : (n.1.map bD ++ [B, y]).take 33 ++ [L] ++ (n.1.map bD ++ [B, y]).drop 34 = n.1.map bD ++ [B, L] := by
  have h := len_encH n
  rw [List.take_append, List.take_of_length_le (by omega), List.drop_append, List.drop_of_length_le (by omega), h]
  simp
section
set_option maxRecDepth 200000
set_option maxHeartbeats 8000000
theorem add_at {S : St} {k : Nat} {gs : List DGst} {size : Nat} (hrm : RoomAt k gs size S) (hl : gs.length ≤ 1000000) (n : H32) (ob ol : Own) (b : List UInt8) (l : List H32) (hb : b.length ≤ 1000000) (hll : l.length ≤ 1000000) :
    DCalls Try.prog 20 [.loc k 0, encH n, .sl ob (b.map bD), .sl ol (l.map encH)] S fun d T => d = erO (addN gs size n l) ∧ RoomAt k (addG gs size n b l) size T ∧ FrW k S T := by
  obtain ⟨own, h1, h2⟩ := hrm.ex
  refine dcalls_inline mixed Try.func20 rfl (fun _ _ => by kernel_rfl) (rs := [.tmp 8]) rfl (by kernel_rfl) (fun hS => ?_)
  have hkl := hS.lt h1
  have ln := n.2
  (simp (disch := first | decide | omega | (simp only [nx]; first | done | omega)) only [go_sem, ln]; (repeat with_reducible refine aI ?_))
  have hsub : S.Sub (S.add (.box 44 (n.1.map bD))) := (St.Sub.refl S).add hS _
  have hrm1 : RoomAt k gs size (S.add (.box 44 (n.1.map bD))) := hrm.mono hsub.ob
  have hrf : ∀ T : St, T = S.add (.box 44 (n.1.map bD)) → FrW k S T := fun T e => e ▸ FrW.of_sub hsub
  refine go_at (has_at hrm1 hl n) ?_
  cases hh : hasG gs n with
  | true =>
    (simp (disch := first | decide | omega | (simp only [nx]; first | done | omega)) only [go_sem]; (repeat with_reducible refine aI ?_))
    have e1 : addN gs size n l = 8 := by simp [addN, hh]
    have e2 : addG gs size n b l = gs := by simp [addG, e1]
    rw [e1, e2]
    exact ⟨rfl, hrm1, FrW.of_sub hsub⟩
  | false =>
    by_cases h0 : l = []
    · subst h0
      have c1 : ((([] : List H32).length : Int) == 0) = true := by decide
      (simp (disch := first | decide | omega | (simp only [nx]; first | done | omega)) only [go_sem, c1]; (repeat with_reducible refine aI ?_))
      have e1 : addN gs size n [] = 1 := by simp [addN, hh]
      have e2 : addG gs size n b [] = gs := by simp [addG, e1]
      rw [e1, e2]
      exact ⟨rfl, hrm1, FrW.of_sub hsub⟩
    · have c1 : ((l.length : Int) == 0) = false := by
        have := List.length_pos_iff.2 h0
        rw [beq_eq_false_iff_ne]; omega
      (simp (disch := first | decide | omega | (simp only [nx]; first | done | omega)) only [go_sem, c1]; (repeat with_reducible refine aI ?_))
      refine ddraw_mk 10 (by kernel_rfl) ?_
      have h1' := hsub.ob _ _ h1
      by_cases hf : gs.length = size
      · have c2 : (((gs.length : Nat) : Int) == ((size : Nat) : Int)) = true := by rw [hf]; exact beq_self_eq_true _
        (simp (disch := first | decide | omega | (simp only [nx]; first | done | omega)) only [go_sem, h1', c2]; (repeat with_reducible refine aI ?_))
        have e1 : addN gs size n l = 12 := by simp [addN, hh, h0, hf]
        have e2 : addG gs size n b l = gs := by simp [addG, e1]
        rw [e1, e2]
        exact ⟨rfl, hrm1, FrW.of_sub hsub⟩
      · have c2 : (((gs.length : Nat) : Int) == ((size : Nat) : Int)) = false := by
          rw [beq_eq_false_iff_ne]; omega
        (simp (disch := first | decide | omega | (simp only [nx]; first | done | omega)) only [go_sem, h1', c2]; (repeat with_reducible refine aI ?_))
        have e1 : addN gs size n l = 0 := by simp [addN, hh, h0, hf]
        have e2 : addG gs size n b l = gs ++ [⟨n, b, sortH l⟩] := by simp [addG, e1]
        rw [e1, e2]
        have hn1 : (S.add (.box 44 (n.1.map bD))).ob S.next = some (.box 44 (n.1.map bD)) := by (first | (simp (disch := first | decide | omega | (simp only [nx]; first | done | omega)) only [go_sem]; first | done | rfl) | rfl)
        have hW : (S.add (.box 44 (n.1.map bD))).WF := hS.add _
        have h2' : own = .full ∧ gs = [] ∨ ∃ g, own = .row g ∧ (S.add (.box 44 (n.1.map bD))).ob g = some (.row 83 gs.length) := by
          rcases h2 with h2 | ⟨g, h2, h3⟩
          · exact .inl h2
          · exact .inr ⟨g, h2, hsub.ob _ _ h3⟩
        have hnx : S.next < (S.add (.box 44 (n.1.map bD))).next := Nat.lt_succ_self _
        generalize S.add (.box 44 (n.1.map bD)) = S1 at *
        refine ddraw_any (fun S' => S'.ob k = some (.box 80 [.sl own (gs.map encG), .v (.int .i64 ((size : Nat) : Int))]) ∧ S'.ob S.next = some (.box 44 (n.1.map bD))) 15 (by (first | (simp (disch := first | decide | omega | (simp only [nx]; first | done | omega)) only [go_sem, h1', hn1, true_and, and_true]; first | done | rfl) | rfl)) (by kernel_rfl) ?_
        (refine s_take 0 rfl (by kernel_rfl) (by kernel_rfl) (v := ?v1) (fun S' hz => dquietR_of ?h1) <| s_take 1 rfl (by kernel_rfl) (by kernel_rfl) (v := ?v2) (fun S' hz => dquietR_of ?h2) <| s_take 2 rfl (by kernel_rfl) (by kernel_rfl) (v := ?v3) (fun S' hz => dquietR_of ?h3) <| s_take 3 rfl (by kernel_rfl) (by kernel_rfl) (v := ?v4) (fun S' hz => dquietR_of ?h4) <| s_take 4 rfl (by kernel_rfl) (by kernel_rfl) (v := ?v5) (fun S' hz => dquietR_of ?h5) <| s_take 5 rfl (by kernel_rfl) (by kernel_rfl) (v := ?v6) (fun S' hz => dquietR_of ?h6) <| s_take 6 rfl (by kernel_rfl) (by kernel_rfl) (v := ?v7) (fun S' hz => dquietR_of ?h7) <| ?k7; (case h1 | h2 | h3 | h4 | h5 | h6 | h7 => ((simp (disch := first | decide | omega | (simp only [nx]; first | done | omega)) only [go_sem, hz.1, hz.2, ln, hz]; (repeat with_reducible refine aI ?_)); first | done | exact rfl | omega)))
        refine s_take 7 rfl (by kernel_rfl) (by kernel_rfl) (v := ?vqa) (fun S' hz => dquietR_of ?hqa) ?kqa; (case hqa => ((simp (disch := first | decide | omega | (simp only [nx]; first | done | omega)) only [go_sem, hz.1, hz.2]; (repeat with_reducible refine aI ?_)); refine dqgo_mk (clone_d ob b hb) ?_; exact rfl))
        (refine s_take 8 rfl (by kernel_rfl) (by kernel_rfl) (v := ?v8) (fun S' hz => dquietR_of ?h8) ?k8; (case h8 => ((simp (disch := first | decide | omega | (simp only [nx]; first | done | omega)) only [go_sem, hz.1, hz.2, ln, hz]; (repeat with_reducible refine aI ?_)); first | done | exact rfl | omega)))
        refine s_take 9 rfl (by kernel_rfl) (by kernel_rfl) (v := ?vqb) (fun S' hz => dquietR_of ?hqb) ?kqb; (case hqb => ((simp (disch := first | decide | omega | (simp only [nx]; first | done | omega)) only [go_sem, hz.1, hz.2]; (repeat with_reducible refine aI ?_)); refine dqgo_mk (hsort_d ol l hll) ?_; exact rfl))
        refine s_take 10 rfl (by kernel_rfl) (by kernel_rfl) (v := encG ⟨n, b, sortH l⟩) (fun S' hz => dquietR_of ?hqc) ?kqc; (case hqc => ((simp (disch := first | decide | omega | (simp only [nx]; first | done | omega)) only [go_sem, hz.1, hz.2, ln]; (repeat with_reducible refine aI ?_)); rw [bg1, bg2]; exact ⟨⟨by rw [List.length_append, len_encH]; exact Nat.le_succ _, by rw [List.length_append, len_encH]; exact Nat.le_refl _⟩, rfl⟩))
        (refine s_take 11 rfl (by kernel_rfl) (by kernel_rfl) (v := ?v9) (fun S' hz => dquietR_of ?h9) ?k9; (case h9 => ((simp (disch := first | decide | omega | (simp only [nx]; first | done | omega)) only [go_sem, hz.1, hz.2, ln, hz]; (repeat with_reducible refine aI ?_)); first | done | exact rfl | omega)))
        (refine s_split [12] (by kernel_rfl) (by simp) ?_; intro j_ hj_; obtain rfl : j_ = 12 := (by simpa using hj_); clear hj_; refine s_op rfl ?_; (simp (disch := first | decide | omega | (simp only [nx]; first | done | omega)) only [go_sem]; (repeat with_reducible refine aI ?_)))
        have hlo : (gs.map encG).length = gs.length := List.length_map _
        have hrowG : GRow own gs.length S1 := by
          rcases h2' with ⟨e1, e2⟩ | e
          · exact .inl ⟨e1, by rw [e2]; rfl⟩
          · exact .inr e
        have hrowA : own = .full ∨ ∃ g, own = .row g ∧ S1.ob g = some (.row 83 (gs.map encG).length) := by
          rw [hlo]
          rcases hrowG with ⟨e1, _⟩ | e
          · exact .inl e1
          · exact .inr e
        refine app_more elGs zeGs hrowA (by rw [szGs]; exact wGs _) (by rw [szGs]; exact fun d hd => by obtain rfl := List.mem_singleton.1 hd; exact width_encG _) (by rw [List.length_map]; simp; omega) (by rw [List.length_map, byGs]; simp; omega) ?_
        rw [hlo]
        have gk : ∀ j o, S1.ob j = some o → (∀ n, o ≠ .row 83 n) → (S1.grow own 83 (gs.length + 1)).ob j = some o := fun j o e ho => grow_keepG hW hrowG e ho
        have z1 := gk k _ h1' (fun n h => by cases h)
        have z2 := gk S.next _ hn1 (fun n h => by cases h)
        refine ⟨⟨z1, z2⟩, ?_⟩
        (refine s_take 13 rfl (by kernel_rfl) (by kernel_rfl) (v := ?v10) (fun S' hz => dquietR_of ?h10) <| s_take 14 rfl (by kernel_rfl) (by kernel_rfl) (v := ?v11) (fun S' hz => dquietR_of ?h11) <| ?k11; (case h10 | h11 => ((simp (disch := first | decide | omega | (simp only [nx]; first | done | omega)) only [go_sem, hz.1, hz.2, hz]; (repeat with_reducible refine aI ?_)); first | done | exact rfl | omega)))
        (refine s_done (by kernel_rfl) ?_; (simp (disch := first | decide | omega | (simp only [nx]; first | done | omega)) only [go_sem, z1, z2]; (repeat with_reducible refine aI ?_)))
        have hgn : (S1.grow own 83 (gs.length + 1)).next = S1.next + 1 := grow_next _ _ _ _
        have hk1 := hW.lt h1'
        refine ⟨rfl, ⟨.row S1.next, ?_, .inr ⟨S1.next, rfl, ?_⟩⟩, ⟨?_, ?_, ?_⟩⟩
        · rw [set_ob, if_pos rfl, List.map_append]; rfl
        · rw [set_ob, if_neg (by omega), List.length_append]
          exact growM_hit
        · show S.next ≤ (S1.grow own 83 (gs.length + 1)).next
          rw [hgn]
          omega
        · intro j t cs hj e
          rw [set_ob, if_neg hj]
          exact gk j _ (hsub.ob j _ e) fun n h => by cases h
        · intro j e' n' h1'' h2'' e
          have e3 := hsub.ob j _ e
          rw [set_ob, if_neg (fun e4 => by rw [e4, h1'] at e3; cases e3)]
          exact gk j _ e3 fun n h => by injection h with h _; exact h1'' h
end
end Go.Proofs.Ytonncfminojejaa

namespace Go.Proofs.Ytonncfminojejaa
open Go.RowKit
section
variable {P : Program} {t : TypeId} {x y : Operand}
theorem bin_or (k : IntKind) (a b : Int) : dbin P .or t x y (.v (.int k a)) (.v (.int k b)) = some (True, .v (.int k (bits .or k a b))) := by
  simp [dbin, eqGuard, binOp, intBits_or, pureRun_bind, pureRun_pure]
theorem bin_xor (k : IntKind) (a b : Int) : dbin P .xor t x y (.v (.int k a)) (.v (.int k b)) = some (True, .v (.int k (bits .xor k a b))) := by
  simp [dbin, eqGuard, binOp, intBits_xor, pureRun_bind, pureRun_pure]
theorem bin_andNot (k : IntKind) (a b : Int) : dbin P .andNot t x y (.v (.int k a)) (.v (.int k b)) = some (True, .v (.int k (bits .andNot k a b))) := by
  simp [dbin, eqGuard, binOp, intBits_andNot, pureRun_bind, pureRun_pure]
theorem bin_shr7 (a : Nat) : dbin P .shr t x y (.v (.int .u64 a)) (.v (.int .u64 7)) = some (True, .v (.int .u64 ((a / 128 : Nat) : Int))) := by
  simp [dbin, eqGuard, binOp, shift_shr .u64 .u64 (a : Int) 7 (by omega) (by decide), pureRun_bind, pureRun_pure]
theorem bin_shr63 (a : Int) : dbin P .shr t x y (.v (.int .i64 a)) (.v (.int .u64 63)) = some (True, .v (.int .i64 (a / 9223372036854775808))) := by
  simp [dbin, eqGuard, binOp, shift_shr .i64 .u64 a 63 (by omega) (by decide), pureRun_bind, pureRun_pure]
theorem bin_shl1 (a : Int) : dbin P .shl t x y (.v (.int .u64 a)) (.v (.int .u64 1)) = some (True, .v (.int .u64 (IntKind.u64.wrap (a * 2)))) := by
  simp [dbin, eqGuard, binOp, Op.shift, IntKind.bits, pureRun_bind, pureRun_pure]
end
theorem cv_u64u8 (n : Int) : pureRun Try.prog (convert 58 5 (.int .u64 n)) = some (.int .u8 (IntKind.u8.wrap n)) := by kernel_rfl
theorem cv_i64u64 (n : Int) : pureRun Try.prog (convert 3 58 (.int .i64 n)) = some (.int .u64 (IntKind.u64.wrap n)) := by kernel_rfl
theorem cv_u64i64 (n : Int) : pureRun Try.prog (convert 58 3 (.int .u64 n)) = some (.int .i64 (IntKind.i64.wrap n)) := by kernel_rfl
theorem cv_u8u64 (n : Int) : pureRun Try.prog (convert 5 58 (.int .u8 n)) = some (.int .u64 (IntKind.u64.wrap n)) := by kernel_rfl
theorem cv_i64u8 (n : Int) : pureRun Try.prog (convert 3 5 (.int .i64 n)) = some (.int .u8 (IntKind.u8.wrap n)) := by kernel_rfl
theorem u8T_u8 : u8T Try.prog 5 = true := by kernel_rfl
attribute [go_sem] u8T_u8
attribute [go_sem] bin_or bin_xor bin_andNot bin_shr7 bin_shr63 bin_shl1 cv_u64u8 cv_i64u64 cv_u64i64 cv_u8u64 cv_i64u8
end Go.Proofs.Ytonncfminojejaa

namespace Go.Proofs.Ytonncfminojejaa
open Go.RowKit
theorem bD_eq (b : UInt8) : bD b = .v (.int .u8 (b.toNat : Int)) := rfl
section
variable {P : Program} {f : Fm} {S : St}
theorem pfin_ret3 (t u v : Tmp) (S' : St) (d : D) : DQ.pfin P [.tmp t, .tmp u, .tmp v] S d .ret f S' = PFin S S' (.tup [f t, f u, f v]) d := by
  simp [DQ.pfin, dresL, dres, onVal, one]
theorem pfin_normal3 (t u v : Tmp) (S' : St) (d : D) : DQ.pfin P [.tmp t, .tmp u, .tmp v] S d .normal f S' = PFin S S' (.tup [f t, f u, f v]) d := by
  simp [DQ.pfin, dresL, dres, onVal, one]
end
attribute [go_sem] pfin_ret3 pfin_normal3
end Go.Proofs.Ytonncfminojejaa

namespace Go.Proofs.Ytonncfminojejaa
open Go.RowKit
theorem u8ne (x y : UInt8) : ((x.toNat : Int) != (y.toNat : Int)) = !decide (x = y) := by
  by_cases h : x = y
  · subst h; simp
  · have : ¬ ((x.toNat : Int) = (y.toNat : Int)) := fun e => h (UInt8.toNat_inj.1 (by omega))
    simp [h, this, bne]
set_option maxRecDepth 200000 in
set_option maxHeartbeats 8000000 in
theorem bytesEq_d (own own2 : Own) (p q : List UInt8) (hp : p.length ≤ 1000000) (hq : q.length ≤ 1000000) : DPure Try.prog 10 [.sl own (p.map bD), .sl own2 (q.map bD)] (.v (.bool (decide (p = q)))) := by
  refine dpure_of_dwp mixed Try.func10 rfl (fun _ _ => by kernel_rfl) (rs := [.tmp 4]) rfl (by kernel_rfl) trivial (fun S hS => ?_)
  by_cases hl : p.length = q.length
  · have b0 : ((p.length : Int) != (q.length : Int)) = false := by simp [hl]
    (simp (disch := first | decide | omega | (simp only [nx]; first | done | omega)) only [go_sem, b0]; (repeat with_reducible refine aI ?_))
    (refine dloop_st (fun t => List.contains [4, 5, 11, 12, 13, 14, 15, 16, 17, 18, 19, 20, 21, 22, 23, 24, 25] t) (by kernel_rfl) ?_ (p.length) (fun i f => i ≤ p.length ∧ f 5 = .v (.int .i64 (i : Nat)) ∧ (∀ j, j < i → p[j]? = q[j]?)) ?_ ?_; (exact (by (repeat' first | assumption | refine St.WF.leave ?_ _ | refine St.WF.add ?_ _ | refine St.WF.set ?_ ?_ _ | refine St.WF.grow ?_ _ _ _ | refine St.WF.keep ?_ ?_ | (first | omega | (simp only [RowOk.lo, nx]; first | done | omega))))); (exact ⟨(by omega), (by (first | (simp (disch := first | decide | omega | (simp only [nx]; first | done | omega)) only [go_sem]; first | done | rfl) | rfl)), (fun j hj => by omega)⟩); intro i g tn hn hT hg hI; obtain ⟨le, q5, hsame⟩ := hI; have q0 := hg 0 rfl; have q1 := hg 1 rfl; simp (disch := first | decide | omega | (simp only [nx]; first | done | omega)) only [go_sem] at q0 q1; clear hg; have hn' := hn; try simp only [add_next, set_next, grow_next, leave_next, drop_next] at hn')
    by_cases hlt : i < p.length
    · have b1 : decide ((i : Int) < (p.length : Int)) = true := by simp; omega
      have w1 : IntKind.i64.wrap ((i : Int) + 1) = ((i + 1 : Nat) : Int) := IntWalk.i64_in _ ⟨by omega, by omega⟩
      have hlt2 : i < q.length := by omega
      by_cases hx : p[i] = q[i]
      · have b2 : (!decide (p[i] = q[i])) = false := by simp [hx]
        (simp (disch := first | decide | omega | (simp only [nx]; first | done | omega)) only [go_sem, q0, q1, q5, b1, w1]; (repeat with_reducible refine aI ?_))
        refine ddraw_mk 9 (by kernel_rfl) ?_
        (simp (disch := first | decide | omega | (simp only [nx]; first | done | omega)) only [go_sem, q0, q1, q5, b1, b2, w1, bD_eq, u8ne]; (repeat with_reducible refine aI ?_))
        (refine ⟨by omega, (by (repeat' first | assumption | exact St.Sub.refl _ | exact RowOk.sub (by assumption) (by assumption) | refine St.Sub.trans ?_ (RowOk.sub (by assumption) (by assumption)) | refine St.Sub.add ?_ ?_ _ | refine St.Sub.set ?_ ?_ ?_ _ | refine St.Sub.keep ?_ ?_ | refine St.WF.leave ?_ _ | refine St.WF.add ?_ _ | refine St.WF.set ?_ ?_ _ | refine St.WF.grow ?_ _ _ _ | refine St.WF.keep ?_ ?_ | (first | omega | (simp only [RowOk.lo, nx]; first | done | omega)))), ?_⟩; refine ⟨by omega, ?_, ?_⟩; all_goals (try (first | (simp (disch := first | decide | omega | (simp only [nx]; first | done | omega)) only [go_sem, w1]; first | done | rfl) | rfl)))
        intro j hj
        by_cases e : j = i
        · subst e; rw [List.getElem?_eq_getElem hlt, List.getElem?_eq_getElem hlt2, hx]
        · exact hsame j (by omega)
      · have b2 : (!decide (p[i] = q[i])) = true := by simp [hx]
        (simp (disch := first | decide | omega | (simp only [nx]; first | done | omega)) only [go_sem, q0, q1, q5, b1]; (repeat with_reducible refine aI ?_))
        refine ddraw_mk 9 (by kernel_rfl) ?_
        (simp (disch := first | decide | omega | (simp only [nx]; first | done | omega)) only [go_sem, q0, q1, q5, b1, b2, bD_eq, u8ne]; (repeat with_reducible refine aI ?_))
        refine ⟨?_, (by (repeat' first | assumption | exact St.Sub.refl _ | exact RowOk.sub (by assumption) (by assumption) | refine St.Sub.trans ?_ (RowOk.sub (by assumption) (by assumption)) | refine St.Sub.add ?_ ?_ _ | refine St.Sub.set ?_ ?_ ?_ _ | refine St.Sub.keep ?_ ?_ | refine St.WF.leave ?_ _ | refine St.WF.add ?_ _ | refine St.WF.set ?_ ?_ _ | refine St.WF.grow ?_ _ _ _ | refine St.WF.keep ?_ ?_ | (first | omega | (simp only [RowOk.lo, nx]; first | done | omega))))⟩
        rw [decide_eq_false]
        · rfl
        · intro e; subst e; exact hx rfl
    · have b1 : decide ((i : Int) < (p.length : Int)) = false := by simp; omega
      (simp (disch := first | decide | omega | (simp only [nx]; first | done | omega)) only [go_sem, q0, q1, q5, b1]; (repeat with_reducible refine aI ?_))
      refine ⟨?_, (by (repeat' first | assumption | exact St.Sub.refl _ | exact RowOk.sub (by assumption) (by assumption) | refine St.Sub.trans ?_ (RowOk.sub (by assumption) (by assumption)) | refine St.Sub.add ?_ ?_ _ | refine St.Sub.set ?_ ?_ ?_ _ | refine St.Sub.keep ?_ ?_ | refine St.WF.leave ?_ _ | refine St.WF.add ?_ _ | refine St.WF.set ?_ ?_ _ | refine St.WF.grow ?_ _ _ _ | refine St.WF.keep ?_ ?_ | (first | omega | (simp only [RowOk.lo, nx]; first | done | omega))))⟩
      rw [decide_eq_true]
      · rfl
      · refine List.ext_getElem? fun j => ?_
        by_cases hj : j < i
        · exact hsame j hj
        · rw [List.getElem?_eq_none (by omega), List.getElem?_eq_none (by omega)]
  · have b0 : ((p.length : Int) != (q.length : Int)) = true := by simp; omega
    (simp (disch := first | decide | omega | (simp only [nx]; first | done | omega)) only [go_sem, b0]; (repeat with_reducible refine aI ?_))
    refine ⟨?_, (by (repeat' first | assumption | exact St.Sub.refl _ | exact RowOk.sub (by assumption) (by assumption) | refine St.Sub.trans ?_ (RowOk.sub (by assumption) (by assumption)) | refine St.Sub.add ?_ ?_ _ | refine St.Sub.set ?_ ?_ ?_ _ | refine St.Sub.keep ?_ ?_ | refine St.WF.leave ?_ _ | refine St.WF.add ?_ _ | refine St.WF.set ?_ ?_ _ | refine St.WF.grow ?_ _ _ _ | refine St.WF.keep ?_ ?_ | (first | omega | (simp only [RowOk.lo, nx]; first | done | omega))))⟩
    rw [decide_eq_false]
    · rfl
    · intro e; subst e; exact hl rfl
end Go.Proofs.Ytonncfminojejaa

namespace Go.Proofs.Ytonncfminojejaa
open Go.RowKit
section
set_option maxRecDepth 200000
set_option maxHeartbeats 8000000
theorem new_some (n : Nat) (hn : n ≤ 32) {S : St} : DCalls Try.prog 19 [.v (.int .i64 (n : Int))] S fun d T => d = .tup [.loc S.next 0, .v .nilIface] ∧ RoomAt S.next [] n T ∧ S.Sub T := by
  refine dcalls_inline mixed Try.func19 rfl (fun _ _ => by kernel_rfl) (rs := [.tmp 2, .tmp 3]) rfl (by kernel_rfl) (fun hS => ?_)
  have b1 : decide ((n : Int) < 0) = false := decide_eq_false (by omega)
  have b2 : decide ((32 : Int) < (n : Int)) = false := decide_eq_false (by omega)
  (simp (disch := first | decide | omega | (simp only [nx]; first | done | omega)) only [go_sem, b1, b2]; (repeat with_reducible refine aI ?_))
  exact ⟨⟨.full, by (first | (simp (disch := first | decide | omega | (simp only [nx]; first | done | omega)) only [go_sem]; first | done | rfl) | rfl), .inl ⟨rfl, rfl⟩⟩, (St.Sub.refl S).add hS _⟩
theorem bnil_ne (k : Nat) : dbin Try.prog .neq 31 (.tmp k) (.const .nilIface) (.v .nilIface) (.v .nilIface) = some (True, .v (.bool false)) := by kernel_rfl
theorem placeH : placeT Try.prog 44 = some fun i => some (i * 1, 1) := by kernel_rfl
def hA : H32 := ⟨1 :: List.replicate 31 0, rfl⟩
def hB : H32 := ⟨2 :: List.replicate 31 0, rfl⟩
theorem add2_set (T : St) (x y x' y' : Ob) : (((T.add x).add y).set T.next x').set (T.next + 1) y' = (T.add x').add y' := by
  have h : ∀ j, ((((T.add x).add y).set T.next x').set (T.next + 1) y').ob j = ((T.add x').add y').ob j := fun j => by
    rw [set_ob, set_ob, add_ob, add_ob, add_ob, add_ob]
    show (if j = T.next + 1 then some y' else if j = T.next then some x' else if j = T.next + 1 then some y else if j = T.next then some x else T.ob j) = if j = T.next + 1 then some y' else if j = T.next then some x' else T.ob j
    by_cases h1 : j = T.next + 1
    · rw [if_pos h1, if_pos h1]
    · by_cases h2 : j = T.next
      · rw [if_neg h1, if_pos h2, if_neg h1, if_pos h2]
      · rw [if_neg h1, if_neg h2, if_neg h1, if_neg h2, if_neg h1, if_neg h2]
  have h2 : ((((T.add x).add y).set T.next x').set (T.next + 1) y').ob = ((T.add x').add y').ob := funext h
  show St.mk _ _ = St.mk _ _
  congr 1
def gA : DGst := ⟨hB, [98], [hA]⟩
theorem aw1 : addN [] 3 hB [hA] = 0 := by decide +kernel
theorem aw2 : addG [] 3 hB [98] [hA] = [gA] := by
  unfold addG
  rw [aw1, if_pos rfl]
  have : sortH [hA] = [hA] := by decide +kernel
  rw [this]
  rfl
theorem aw3 : missG [gA] = [hA] := by decide +kernel
theorem aw4 : outG [gA] hA = [[98]] := by decide +kernel
theorem aw5 : (doneG [gA] hA).length = 0 := by decide +kernel
theorem gok_A : GOk [gA] := fun g hg => by
  obtain rfl := List.mem_singleton.1 hg
  exact ⟨by simp [gA], List.pairwise_singleton _ _, by decide, by decide⟩
theorem bnil_eq (k : Nat) : dbin Try.prog .eql 31 (.tmp k) (.const .nilIface) (.v .nilIface) (.v .nilIface) = some (True, .v (.bool true)) := by kernel_rfl
theorem awake_d : DPure Try.prog 18 [] (.v (.bool true)) := by
  refine dpure_nil (by trivial) (dat_of_dwpL mixed Try.func18 rfl (fun _ _ => by kernel_rfl) (rs := [.tmp 0]) rfl (by kernel_rfl) (by trivial) (fun hS => ?_))
  (simp (disch := first | decide | omega | (simp only [nx]; first | done | omega)) only [go_sem]; (repeat with_reducible refine aI ?_))
  refine DCalls.mono (DCalls.wf (new_some 3 (by omega) (S := St.nil))) ?_
  rintro d T ⟨⟨rfl, hrm, hsub⟩, hT⟩
  (simp (disch := first | decide | omega | (simp only [nx]; first | done | omega)) only [go_sem, bnil_ne, placeH]; (repeat with_reducible refine aI ?_))
  refine dlit_mk [98] elBy (by kernel_rfl) zeBy szBy (by decide) rfl rfl ?_
  (simp (disch := first | decide | omega | (simp only [nx]; first | done | omega)) only [go_sem]; (repeat with_reducible refine aI ?_))
  rw [add2_set]
  have hs2 : T.Sub ((T.add (.box 44 (hA.1.map bD))).add (.box 44 (hB.1.map bD))) := ((St.Sub.refl T).add hT _).add hT _
  have hrm1 := hrm.mono hs2.ob
  refine DCalls.mono (DCalls.wf (add_at hrm1 (by decide) hB .no .full [98] [hA] (by decide) (by decide))) ?_
  rintro d T1 ⟨⟨rfl, hr1, hf1⟩, hT1⟩
  rw [aw1]
  rw [aw2] at hr1
  have x1 : T1.ob T.next = some (.box 44 (hA.1.map bD)) := hf1.box _ _ _ (by have := hsub.next; have := hsub.ob; intro e; obtain ⟨_, hq, _⟩ := hrm.ex; have := hT.lt hq; omega) (by (first | (simp (disch := first | decide | omega | (simp only [nx]; first | done | omega)) only [go_sem]; first | done | rfl) | rfl))
  have ez : erO 0 = .v .nilIface := rfl
  rw [ez]
  (simp (disch := first | decide | omega | (simp only [nx]; first | done | omega)) only [go_sem]; (repeat with_reducible refine aI ?_))
  refine go_at (missing_at hr1 (by decide) (by decide)) ?_
  rw [aw3]
  have lA : hA.1.length = 32 := hA.2
  (simp (disch := first | decide | omega | (simp only [nx]; first | done | omega)) only [go_sem, x1, lA]; (repeat with_reducible refine aI ?_))
  refine DCalls.mono (DCalls.wf (done_at hr1 (by decide) gok_A hA)) ?_
  rintro d T2 ⟨⟨rfl, hr2, hf2⟩, hT2⟩
  rw [aw4]
  have x2 : T2.ob T.next = some (.box 44 (hA.1.map bD)) := hf2.box _ _ _ (by intro e; obtain ⟨_, hq, _⟩ := hrm.ex; have := hT.lt hq; omega) x1
  (simp (disch := first | decide | omega | (simp only [nx]; first | done | omega)) only [go_sem, bnil_eq, x2, lA]; (repeat with_reducible refine aI ?_))
  refine DCalls.of_pure (hashes_d .no .full [hA] [hA] (by decide)) ?_
  have c1 : decide ([hA] = [hA]) = true := decide_eq_true rfl
  have c2 : (((1 : Nat) : Int) == 1) = true := by decide
  have c3 : (encB [98]).cells.length = 1 := rfl
  have c4 : (0 : Int) < ((1 : Nat) : Int) := by decide
  have c7 : (encB [98]).cells.getD 0 undefD = .sl .no (([98] : List UInt8).map bD) := rfl
  (simp (disch := first | decide | omega | (simp only [nx]; first | done | omega)) only [go_sem, bnil_eq, x2, lA, c1, c2, c3, c4, c7, Nat.lt_add_one]; (repeat with_reducible refine aI ?_))
  refine dlit_mkG (tj := 45) [98] elBy ?a1 zeBy szBy ?a2 ?a3 ?a4 ?a5 ?a6 ?_
  case a1 => kernel_rfl
  case a2 => decide
  case a3 => rfl
  case a4 => rfl
  case a5 => rfl
  case a6 => (first | (simp (disch := first | decide | omega | (simp only [nx]; first | done | omega)) only [go_sem]; first | done | rfl) | rfl)
  (simp (disch := first | decide | omega | (simp only [nx]; first | done | omega)) only [go_sem]; (repeat with_reducible refine aI ?_))
  refine DCalls.of_pure (bytesEq_d .no .no [98] [98] (by decide) (by decide)) ?_
  have c5 : decide (([98] : List UInt8) = [98]) = true := decide_eq_true rfl
  (simp (disch := first | decide | omega | (simp only [nx]; first | done | omega)) only [go_sem, c5]; (repeat with_reducible refine aI ?_))
  refine go_at (len_at hr2) ?_
  rw [aw5]
  have c6 : (((0 : Nat) : Int) == 0) = true := by decide
  (simp (disch := first | decide | omega | (simp only [nx]; first | done | omega)) only [go_sem, c6]; (repeat with_reducible refine aI ?_))
  exact ⟨rfl, Nat.zero_le _, fun _ _ h => by cases h⟩
end
end Go.Proofs.Ytonncfminojejaa

namespace Go.Proofs.Ytonncfminojejaa
open Go.RowKit
section
variable {P : Program} {Zs : St → Prop}
theorem s_opwE {i : Nat} {l : List Oper} {dst : Option Tmp} {t e : TypeId} {n : Nat} {ps : Array (Nat × Operand)} {ty : TypeId} {pos : String} {aft : Array Edge} (es cs : List D) (hi : nth l i = some ⟨dst, .buildSlice t n ps, ty, pos, aft, none⟩) {K : Fm → St → Prop} {f : Fm} {S : St} (h0 : (ps.toList.map fun p => ev f p.2) = es) (hc : flat es = cs) (h1 : elT P t = some e) (h2 : zeroT P e = true) (h3 : ps.toList.map (·.1) = List.range n) (h4 : n * szOf P e ≤ 16777216)
    (h5 : ∀ d ∈ es, d.okCell = true ∧ d.width = szOf P e) (h : Zs (S.add (.box e cs)) ∧ K (put f dst (.win S.next 0 n n)) (S.add (.box e cs))) : sOp P (List.toArray l) Zs i K f S := by
  subst h0
  subst hc
  exact s_opw hi h1 h2 h3 h4 h5 h
end
section
set_option maxRecDepth 200000
set_option maxHeartbeats 8000000
theorem zoBy : zeroOk Try.prog 5 = true := by kernel_rfl
theorem dat_ownB {g : FuncId} {args : List D} {S : St} {l : List UInt8} (h : S.WF → DCalls Try.prog g args S fun d T => ∃ k c zs, d = .win k 0 l.length c ∧ S.next ≤ k ∧ T.ob k = some (ownOb 5 (l.map bD) zs c) ∧ l.length ≤ c ∧ S.Sub T) : DAt Try.prog g args S (.sl .no (l.map bD)) := fun base η w vs hM hr =>
  calls_fin ((h hM.fresh).mono fun d T ⟨k, c, zs, e, hk, ho, hc, hs⟩ => ⟨T.drop k, .sl .no (l.map bD), by
    subst e
    refine thaw_own ho (by rw [List.length_map]; exact hc) (by rw [szBy]; omega) (by rw [szBy]; exact wBy l) ?_
    simp only [D.thaw, List.length_map, Nat.beq_refl, Bool.and_self, cond_true], fin_same hM.fresh (closed_bB l) ⟨hs.next, fun j o hj => by
    have := St.WF.lt (S := S) hM.fresh hj
    simp only [St.drop]
    rw [if_neg (by omega)]
    exact hs.ob j o hj⟩⟩) base η w vs hM hr
theorem cloneW_at {S : St} {j c c0 : Nat} {b : List UInt8} {zs : List D} (hj : S.ob j = some (ownOb 5 (b.map bD) zs c)) (hb0 : 0 < b.length) (hbc : b.length ≤ c) (hl : b.length ≤ 1000000) : DAt Try.prog 33 [.win j 0 b.length c0] S (.sl .no (b.map bD)) := by
  refine dat_ownB fun hS0 => ?_
  refine dcalls_inline mixed Try.func33 rfl (fun _ _ => by kernel_rfl) (rs := [.tmp 2]) rfl (by kernel_rfl) (fun hS => ?_)
  (simp (disch := first | decide | omega | (simp only [nx]; first | done | omega)) only [go_sem, hb0]; (repeat with_reducible refine aI ?_))
  have hso := srcOk_ownA (z := 1) hj (by rw [List.length_map]; exact hbc) (wBy b) (c' := c0)
  rw [List.length_map] at hso
  refine dapp_srcW (dappend_fresh elBy (by rw [elBy]; rfl) zeBy zoBy (es2 := b.map bD) (by rw [szBy]; exact hso) (by rw [List.length_map]) (by rw [List.length_map]; omega) (by rw [byBy, List.length_map]; omega) fun c' zs' h1 h2 => ?_)
  rw [List.length_map] at *
  (simp (disch := first | decide | omega | (simp only [nx]; first | done | omega)) only [go_sem]; (repeat with_reducible refine aI ?_))
  exact ⟨S.next, c', zs', rfl, Nat.le_refl _, by (first | (simp (disch := first | decide | omega | (simp only [nx]; first | done | omega)) only [go_sem]; first | done | rfl) | rfl), h1, (St.Sub.refl S).add hS0 _⟩
theorem hsortW_at {S : St} {j c c0 : Nat} {l : List H32} {zs : List D} (hj : S.ob j = some (ownOb 44 (l.map encH) zs c)) (hlc : l.length ≤ c) (hn : l.length ≤ 1000000) : DAt Try.prog 31 [.win j 0 l.length c0] S (.sl .no ((sortH l).map encH)) := by
  refine dat_ownH fun hS0 => ?_
  refine dcalls_inline mixed Try.func31 rfl (fun _ _ => by kernel_rfl) (rs := [.tmp 2]) rfl (by kernel_rfl) (fun hS => ?_)
  (simp (disch := first | decide | omega | (simp only [nx]; first | done | omega)) only [go_sem]; (repeat with_reducible refine aI ?_))
  have hso := srcOk_ownA (z := 32) hj (by rw [List.length_map]; exact hlc) (wHs l) (c' := c0)
  rw [List.length_map] at hso
  refine dapp_srcW (dappend_fresh elHs (by rw [elHs]; rfl) zeHs zoHs (es2 := l.map encH) (by rw [szHs]; exact hso) (by rw [List.length_map]) (by rw [List.length_map]; omega) (by rw [byHs, List.length_map]; omega) fun c zs h1 h2 => ?_)
  rw [szHs] at h2
  (simp (disch := first | decide | omega | (simp only [nx]; first | done | omega)) only [go_sem]; (repeat with_reducible refine aI ?_))
  refine (sortHs_w (S := S.add (ownOb 44 (l.map encH) zs c)) l ⟨by (first | (simp (disch := first | decide | omega | (simp only [nx]; first | done | omega)) only [go_sem]; first | done | rfl) | rfl), h2, by show S.next < S.next + 1; omega⟩ hn).mono ?_
  rintro d T ⟨rfl, l', hp, hs, rfl⟩
  (simp (disch := first | decide | omega | (simp only [nx]; first | done | omega)) only [go_sem]; (repeat with_reducible refine aI ?_))
  have hl := hp.length_eq
  have hpl := packH_sort hp hs
  have key := compactH_w (S := (S.add (ownOb 44 (l.map encH) zs c)).set S.next (ownOb 44 (l'.map encH) zs c)) (k := S.next) (c := c) (zs := zs) l' ⟨by (first | (simp (disch := first | decide | omega | (simp only [nx]; first | done | omega)) only [go_sem]; first | done | rfl) | rfl), by simp only [List.length_append, flatHs_len] at h2 ⊢; omega, by show S.next < S.next + 1; omega⟩ (by omega)
  rw [hl, hpl] at key
  refine key.mono ?_
  rintro d T ⟨zs', rfl, ho, hnx, hf⟩
  (simp (disch := first | decide | omega | (simp only [nx]; first | done | omega)) only [go_sem]; (repeat with_reducible refine aI ?_))
  refine ⟨S.next, c, zs', rfl, Nat.le_refl _, ho, by have : S.next + 1 ≤ T.next := hnx; omega, fun j o h => ?_⟩
  have := hS.lt h
  have hj : j ≠ S.next := by omega
  refine hf j o hj ?_
  (first | (simp (disch := first | decide | omega | (simp only [nx]; first | done | omega)) only [go_sem, hj, h]; first | done | rfl) | rfl)
theorem addW_at {S : St} {k : Nat} {gs : List DGst} {size : Nat} (hrm : RoomAt k gs size S) (hl : gs.length ≤ 1000000) (n : H32) (dB : D) (jl cl : Nat) (b : List UInt8) (l : List H32) (hh : hasG gs n = false) (h0 : l ≠ []) (hf : gs.length ≠ size)
    (hcl : ∀ U : St, (∀ j t cs, S.ob j = some (.box t cs) → U.ob j = some (.box t cs)) → DAt Try.prog 33 [dB] U (.sl .no (b.map bD)))
    (hso : ∀ U : St, (∀ j t cs, S.ob j = some (.box t cs) → U.ob j = some (.box t cs)) → DAt Try.prog 31 [.win jl 0 l.length cl] U (.sl .no ((sortH l).map encH))) :
    DCalls Try.prog 20 [.loc k 0, encH n, dB, .win jl 0 l.length cl] S fun d T => d = .v .nilIface ∧ RoomAt k (gs ++ [⟨n, b, sortH l⟩]) size T ∧ FrW k S T := by
  obtain ⟨own, h1, h2⟩ := hrm.ex
  refine dcalls_inline mixed Try.func20 rfl (fun _ _ => by kernel_rfl) (rs := [.tmp 8]) rfl (by kernel_rfl) (fun hS => ?_)
  have hkl := hS.lt h1
  have ln := n.2
  (simp (disch := first | decide | omega | (simp only [nx]; first | done | omega)) only [go_sem, ln]; (repeat with_reducible refine aI ?_))
  have hsub : S.Sub (S.add (.box 44 (n.1.map bD))) := (St.Sub.refl S).add hS _
  have hrm1 : RoomAt k gs size (S.add (.box 44 (n.1.map bD))) := hrm.mono hsub.ob
  refine go_at (has_at hrm1 hl n) ?_
  rw [hh]
  have c1 : ((l.length : Int) == 0) = false := by
    have := List.length_pos_iff.2 h0
    rw [beq_eq_false_iff_ne]; omega
  (simp (disch := first | decide | omega | (simp only [nx]; first | done | omega)) only [go_sem, c1]; (repeat with_reducible refine aI ?_))
  refine ddraw_mk 10 (by kernel_rfl) ?_
  have h1' := hsub.ob _ _ h1
  have c2 : (((gs.length : Nat) : Int) == ((size : Nat) : Int)) = false := by
    rw [beq_eq_false_iff_ne]; omega
  (simp (disch := first | decide | omega | (simp only [nx]; first | done | omega)) only [go_sem, h1', c2]; (repeat with_reducible refine aI ?_))
  have hn1 : (S.add (.box 44 (n.1.map bD))).ob S.next = some (.box 44 (n.1.map bD)) := by (first | (simp (disch := first | decide | omega | (simp only [nx]; first | done | omega)) only [go_sem]; first | done | rfl) | rfl)
  have hW : (S.add (.box 44 (n.1.map bD))).WF := hS.add _
  have h2' : own = .full ∧ gs = [] ∨ ∃ g, own = .row g ∧ (S.add (.box 44 (n.1.map bD))).ob g = some (.row 83 gs.length) := by
    rcases h2 with h2 | ⟨g, h2, h3⟩
    · exact .inl h2
    · exact .inr ⟨g, h2, hsub.ob _ _ h3⟩
  have hnx : S.next < (S.add (.box 44 (n.1.map bD))).next := Nat.lt_succ_self _
  have hbx : ∀ j t cs, S.ob j = some (.box t cs) → (S.add (.box 44 (n.1.map bD))).ob j = some (.box t cs) := fun j t cs e => hsub.ob j _ e
  generalize S.add (.box 44 (n.1.map bD)) = S1 at *
  refine ddraw_any (fun S' => (S'.ob k = some (.box 80 [.sl own (gs.map encG), .v (.int .i64 ((size : Nat) : Int))]) ∧ S'.ob S.next = some (.box 44 (n.1.map bD))) ∧ ∀ j t cs, S.ob j = some (.box t cs) → S'.ob j = some (.box t cs)) 15 ⟨⟨h1', hn1⟩, hbx⟩ (by kernel_rfl) ?_
  (refine s_take 0 rfl (by kernel_rfl) (by kernel_rfl) (v := ?v1) (fun S' hz => dquietR_of ?h1) <| s_take 1 rfl (by kernel_rfl) (by kernel_rfl) (v := ?v2) (fun S' hz => dquietR_of ?h2) <| s_take 2 rfl (by kernel_rfl) (by kernel_rfl) (v := ?v3) (fun S' hz => dquietR_of ?h3) <| s_take 3 rfl (by kernel_rfl) (by kernel_rfl) (v := ?v4) (fun S' hz => dquietR_of ?h4) <| s_take 4 rfl (by kernel_rfl) (by kernel_rfl) (v := ?v5) (fun S' hz => dquietR_of ?h5) <| s_take 5 rfl (by kernel_rfl) (by kernel_rfl) (v := ?v6) (fun S' hz => dquietR_of ?h6) <| s_take 6 rfl (by kernel_rfl) (by kernel_rfl) (v := ?v7) (fun S' hz => dquietR_of ?h7) <| ?k7; (case h1 | h2 | h3 | h4 | h5 | h6 | h7 => ((simp (disch := first | decide | omega | (simp only [nx]; first | done | omega)) only [go_sem, hz.1.1, hz.1.2, ln, hz]; (repeat with_reducible refine aI ?_)); first | done | exact rfl | omega)))
  refine s_take 7 rfl (by kernel_rfl) (by kernel_rfl) (v := ?vqa) (fun S' hz => dquietR_of ?hqa) ?kqa; (case hqa => ((simp (disch := first | decide | omega | (simp only [nx]; first | done | omega)) only [go_sem, hz.1.1, hz.1.2]; (repeat with_reducible refine aI ?_)); refine dqgo_at (fun U hU hUo => hcl U fun j t cs e => hUo j _ (hz.2 j t cs e)) ?_; exact rfl))
  (refine s_take 8 rfl (by kernel_rfl) (by kernel_rfl) (v := ?v8) (fun S' hz => dquietR_of ?h8) ?k8; (case h8 => ((simp (disch := first | decide | omega | (simp only [nx]; first | done | omega)) only [go_sem, hz.1.1, hz.1.2, ln, hz]; (repeat with_reducible refine aI ?_)); first | done | exact rfl | omega)))
  refine s_take 9 rfl (by kernel_rfl) (by kernel_rfl) (v := ?vqb) (fun S' hz => dquietR_of ?hqb) ?kqb; (case hqb => ((simp (disch := first | decide | omega | (simp only [nx]; first | done | omega)) only [go_sem, hz.1.1, hz.1.2]; (repeat with_reducible refine aI ?_)); refine dqgo_at (fun U hU hUo => hso U fun j t cs e => hUo j _ (hz.2 j t cs e)) ?_; exact rfl))
  refine s_take 10 rfl (by kernel_rfl) (by kernel_rfl) (v := encG ⟨n, b, sortH l⟩) (fun S' hz => dquietR_of ?hqc) ?kqc; (case hqc => ((simp (disch := first | decide | omega | (simp only [nx]; first | done | omega)) only [go_sem, hz.1.1, hz.1.2, ln]; (repeat with_reducible refine aI ?_)); rw [bg1, bg2]; exact ⟨⟨by rw [List.length_append, len_encH]; exact Nat.le_succ _, by rw [List.length_append, len_encH]; exact Nat.le_refl _⟩, rfl⟩))
  (refine s_take 11 rfl (by kernel_rfl) (by kernel_rfl) (v := ?v9) (fun S' hz => dquietR_of ?h9) ?k9; (case h9 => ((simp (disch := first | decide | omega | (simp only [nx]; first | done | omega)) only [go_sem, hz.1.1, hz.1.2, ln, hz]; (repeat with_reducible refine aI ?_)); first | done | exact rfl | omega)))
  (refine s_split [12] (by kernel_rfl) (by simp) ?_; intro j_ hj_; obtain rfl : j_ = 12 := (by simpa using hj_); clear hj_; refine s_op rfl ?_; (simp (disch := first | decide | omega | (simp only [nx]; first | done | omega)) only [go_sem]; (repeat with_reducible refine aI ?_)))
  have hlo : (gs.map encG).length = gs.length := List.length_map _
  have hrowG : GRow own gs.length S1 := by
    rcases h2' with ⟨e1, e2⟩ | e
    · exact .inl ⟨e1, by rw [e2]; rfl⟩
    · exact .inr e
  have hrowA : own = .full ∨ ∃ g, own = .row g ∧ S1.ob g = some (.row 83 (gs.map encG).length) := by
    rw [hlo]
    rcases hrowG with ⟨e1, _⟩ | e
    · exact .inl e1
    · exact .inr e
  refine app_more elGs zeGs hrowA (by rw [szGs]; exact wGs _) (by rw [szGs]; exact fun d hd => by obtain rfl := List.mem_singleton.1 hd; exact width_encG _) (by rw [List.length_map]; simp; omega) (by rw [List.length_map, byGs]; simp; omega) ?_
  rw [hlo]
  have gk : ∀ j o, S1.ob j = some o → (∀ n, o ≠ .row 83 n) → (S1.grow own 83 (gs.length + 1)).ob j = some o := fun j o e ho => grow_keepG hW hrowG e ho
  have z1 := gk k _ h1' (fun n h => by cases h)
  have z2 := gk S.next _ hn1 (fun n h => by cases h)
  refine ⟨⟨⟨z1, z2⟩, fun j t cs e => gk j _ (hbx j t cs e) fun n h => by cases h⟩, ?_⟩
  (refine s_take 13 rfl (by kernel_rfl) (by kernel_rfl) (v := ?v10) (fun S' hz => dquietR_of ?h10) <| s_take 14 rfl (by kernel_rfl) (by kernel_rfl) (v := ?v11) (fun S' hz => dquietR_of ?h11) <| ?k11; (case h10 | h11 => ((simp (disch := first | decide | omega | (simp only [nx]; first | done | omega)) only [go_sem, hz.1.1, hz.1.2, hz]; (repeat with_reducible refine aI ?_)); first | done | exact rfl | omega)))
  (refine s_done (by kernel_rfl) ?_; (simp (disch := first | decide | omega | (simp only [nx]; first | done | omega)) only [go_sem, z1, z2]; (repeat with_reducible refine aI ?_)))
  have hgn : (S1.grow own 83 (gs.length + 1)).next = S1.next + 1 := grow_next _ _ _ _
  have hk1 := hW.lt h1'
  refine ⟨⟨.row S1.next, ?_, .inr ⟨S1.next, rfl, ?_⟩⟩, ⟨?_, ?_, ?_⟩⟩
  · rw [set_ob, if_pos rfl, List.map_append]; rfl
  · rw [set_ob, if_neg (by omega), List.length_append]
    exact growM_hit
  · show S.next ≤ (S1.grow own 83 (gs.length + 1)).next
    rw [hgn]
    omega
  · intro j t cs hj e
    rw [set_ob, if_neg hj]
    exact gk j _ (hsub.ob j _ e) fun n h => by cases h
  · intro j e' n' h1'' h2'' e
    have e3 := hsub.ob j _ e
    rw [set_ob, if_neg (fun e4 => by rw [e4, h1'] at e3; cases e3)]
    exact gk j _ e3 fun n h => by injection h with h _; exact h1'' h
theorem flat_bD (b : List UInt8) : flat (b.map bD) = b.map bD := by
  induction b with
  | nil => rfl
  | cons x b ih => rw [List.map_cons, flat_cons, ih]; rfl
theorem own_at (n o : H32) (b : List UInt8) : DAt Try.prog 6 [encH n, encH o, .sl .no (b.map bD)] St.nil (.v (.bool true)) := by
  refine dat_of_dwpL mixed Try.func6 rfl (fun _ _ => by kernel_rfl) (rs := [.tmp 6]) rfl (by kernel_rfl) (by trivial) (fun hS => ?_)
  have ln := n.2
  have lo := o.2
  by_cases h : b.length > 100
  · have b1 : decide ((b.length : Int) > 100) = true := decide_eq_true (by omega)
    (simp (disch := first | decide | omega | (simp only [nx]; first | done | omega)) only [go_sem, b1]; (repeat with_reducible refine aI ?_))
    refine DCalls.of_pure awake_d ?_
    (simp (disch := first | decide | omega | (simp only [nx]; first | done | omega)) only [go_sem]; (repeat with_reducible refine aI ?_))
    refine ⟨?_, (by (repeat' first | assumption | exact St.Sub.refl _ | exact RowOk.sub (by assumption) (by assumption) | refine St.Sub.trans ?_ (RowOk.sub (by assumption) (by assumption)) | refine St.Sub.add ?_ ?_ _ | refine St.Sub.set ?_ ?_ ?_ _ | refine St.Sub.keep ?_ ?_ | refine St.WF.leave ?_ _ | refine St.WF.add ?_ _ | refine St.WF.set ?_ ?_ _ | refine St.WF.grow ?_ _ _ _ | refine St.WF.keep ?_ ?_ | (first | omega | (simp only [RowOk.lo, nx]; first | done | omega))))⟩
    rfl
  have b1 : decide ((b.length : Int) > 100) = false := decide_eq_false (by omega)
  by_cases hno : n = o
  · subst hno
    have b2 : decide (n = n) = true := decide_eq_true rfl
    (simp (disch := first | decide | omega | (simp only [nx]; first | done | omega)) only [go_sem, b1, ln, b2]; (repeat with_reducible refine aI ?_))
    refine DCalls.of_pure awake_d ?_
    (simp (disch := first | decide | omega | (simp only [nx]; first | done | omega)) only [go_sem]; (repeat with_reducible refine aI ?_))
    refine ⟨?_, (by (repeat' first | assumption | exact St.Sub.refl _ | exact RowOk.sub (by assumption) (by assumption) | refine St.Sub.trans ?_ (RowOk.sub (by assumption) (by assumption)) | refine St.Sub.add ?_ ?_ _ | refine St.Sub.set ?_ ?_ ?_ _ | refine St.Sub.keep ?_ ?_ | refine St.WF.leave ?_ _ | refine St.WF.add ?_ _ | refine St.WF.set ?_ ?_ _ | refine St.WF.grow ?_ _ _ _ | refine St.WF.keep ?_ ?_ | (first | omega | (simp only [RowOk.lo, nx]; first | done | omega))))⟩
    rfl
  have b2 : decide (n = o) = false := decide_eq_false hno
  (simp (disch := first | decide | omega | (simp only [nx]; first | done | omega)) only [go_sem, b1, ln, lo, b2]; (repeat with_reducible refine aI ?_))
  refine DCalls.mono (DCalls.wf (new_some 3 (by omega))) ?_
  rintro d T ⟨⟨rfl, hrm, hsub⟩, hT⟩
  (simp (disch := first | decide | omega | (simp only [nx]; first | done | omega)) only [go_sem, bnil_ne]; (repeat with_reducible refine aI ?_))
  have hn0 : T.ob St.nil.next = some (.box 44 (n.1.map bD)) := hsub.ob _ _ rfl
  have ho0 : T.ob (St.nil.next + 1) = some (.box 44 (o.1.map bD)) := hsub.ob _ _ rfl
  have hnx : 3 ≤ T.next := by
    obtain ⟨_, hq, _⟩ := hrm.ex
    exact hT.lt hq
  have zn : (St.nil.add (.box 44 (n.1.map bD))).next = 1 := rfl
  have flo : flat [encH o] = o.1.map bD := by simp [flat, encH, D.cells]
  by_cases hb0 : b = []
  · subst hb0
    refine ddraw_any (fun S' => ∀ j x, T.ob j = some x → S'.ob j = some x) 7 (fun _ _ e => e) (by kernel_rfl) ?_
    (refine s_take 0 rfl (by kernel_rfl) (by kernel_rfl) (v := ?v12) (fun S' hz => dquietR_of ?h12) <| s_take 1 rfl (by kernel_rfl) (by kernel_rfl) (v := ?v13) (fun S' hz => dquietR_of ?h13) <| ?k13; (case h12 | h13 => ((simp (disch := first | decide | omega | (simp only [nx]; first | done | omega)) only [go_sem, hz, hz]; (repeat with_reducible refine aI ?_)); first | done | exact rfl | omega)))
    refine s_take 3 rfl (by kernel_rfl) (by kernel_rfl) (v := encH o) (fun S' hz => dquietR_of ?hqa) ?kqa; (case hqa => (have hz1 := hz _ _ ho0; (simp (disch := first | decide | omega | (simp only [nx]; first | done | omega)) only [go_sem, hz1, lo]; (repeat with_reducible refine aI ?_)); try exact ⟨Nat.le_refl _, rfl⟩))
    refine s_split [2, 4] (by kernel_rfl) (by simp) ?_
    intro j_ hj_
    simp only [List.mem_cons, List.not_mem_nil, or_false] at hj_
    rcases hj_ with rfl | rfl
    · refine s_op rfl ?_
      (simp (disch := first | decide | omega | (simp only [nx]; first | done | omega)) only [go_sem]; (repeat with_reducible refine aI ?_))
      refine app_more elBy zeBy (.inl rfl) (fun _ h => by cases h) (fun _ h => by cases h) (by simp) (by simp) ?_
      refine ⟨fun j x e => by have := hT.lt e; have hne : j ≠ T.next := (by omega); exact (if_neg hne).trans e, ?_⟩
      (refine s_take 5 rfl (by kernel_rfl) (by kernel_rfl) (v := ?v14) (fun S' hz => dquietR_of ?h14) ?k14; (case h14 => ((simp (disch := first | decide | omega | (simp only [nx]; first | done | omega)) only [go_sem, hz, hz]; (repeat with_reducible refine aI ?_)); first | done | exact rfl | omega)))
      refine s_split [4] (by kernel_rfl) (by simp) ?_
      intro j_ hj_
      obtain rfl : j_ = 4 := by simpa using hj_
      refine s_opwE [encH o] (o.1.map bD) rfl rfl flo elHs zeHs rfl (by rw [szHs]; omega) (by intro d hd; obtain rfl := List.mem_singleton.1 hd; exact ⟨rfl, by rw [szHs]; exact width_encH o⟩) ?_
      refine ⟨fun j x e => by have := hT.lt e; rw [add_ob, if_neg (by show j ≠ T.next + 1; omega)]; have hne : j ≠ T.next := (by omega); exact (if_neg hne).trans e, ?_⟩
      (refine s_take 6 rfl (by kernel_rfl) (by kernel_rfl) (v := ?v15) (fun S' hz => dquietR_of ?h15) ?k15; (case h15 => ((simp (disch := first | decide | omega | (simp only [nx]; first | done | omega)) only [go_sem, hz, hz]; (repeat with_reducible refine aI ?_)); first | done | exact rfl | omega)))
      (refine s_done (by kernel_rfl) ?_; (simp (disch := first | decide | omega | (simp only [nx]; first | done | omega)) only [go_sem, hT]; (repeat with_reducible refine aI ?_)))
      have low : ∀ j x, T.ob j = some x → ((T.grow .full 5 0).add (.box 44 (o.1.map bD))).ob j = some x := fun j x e => by have := hT.lt e; rw [add_ob, if_neg (by show j ≠ T.next + 1; omega)]; have hne : j ≠ T.next := (by omega); exact (if_neg hne).trans e
      have x0 := low _ _ hn0
      have xo := low _ _ ho0
      have xl : ((T.grow .full 5 0).add (.box 44 (o.1.map bD))).ob (T.next + 1) = some (.box 44 (o.1.map bD)) := by rw [add_ob]; exact if_pos rfl
      have xr : RoomAt (St.nil.next + 1 + 1) [] 3 ((T.grow .full 5 0).add (.box 44 (o.1.map bD))) := hrm.mono low
      have xw : ((T.grow .full 5 0).add (.box 44 (o.1.map bD))).WF := (by (repeat' first | assumption | refine St.WF.leave ?_ _ | refine St.WF.add ?_ _ | refine St.WF.set ?_ ?_ _ | refine St.WF.grow ?_ _ _ _ | refine St.WF.keep ?_ ?_ | (first | omega | (simp only [RowOk.lo, nx]; first | done | omega))))
      have hj3 : 3 ≤ T.next + 1 := by omega
      obtain ⟨jl, hjl⟩ : ∃ j, j = T.next + 1 := ⟨_, rfl⟩
      rw [← hjl] at xl hj3
      rw [← hjl]
      generalize (T.grow .full 5 0).add (.box 44 (o.1.map bD)) = S2 at *
      clear hjl
      try (simp (disch := first | decide | omega | (simp only [nx]; first | done | omega)) only [go_sem, x0, ln]; (repeat with_reducible refine aI ?_))
      have srt : sortH [o] = [o] := ascH_ext (ascH_sortH _) (List.pairwise_singleton _ _) fun m => mem_sortH _ m
      refine DCalls.mono (DCalls.wf (addW_at xr (by decide) n (.sl (.row T.next) []) jl 1 [] [o] rfl (by simp) (by decide) (fun U hU => clone_d (.row T.next) [] (by decide) U) (fun U hU => hsortW_at (l := [o]) (c := 1) (zs := []) (by rw [ownOb_box (by omega)]; show U.ob jl = some (.box _ (flat [encH o] ++ [])); rw [flo, List.append_nil]; exact hU jl _ _ xl) (Nat.le_refl _) (by show 1 ≤ 1000000; omega)))) ?_
      rintro d T3 ⟨⟨rfl, hr3, hf3⟩, hT3⟩
      rw [List.nil_append, srt] at hr3
      have y0 := hf3.box St.nil.next _ _ (by show (0 : Nat) ≠ 2; omega) x0
      have yo := hf3.box (St.nil.next + 1) _ _ (by show (1 : Nat) ≠ 2; omega) xo
      have yl := hf3.box jl _ _ (by show jl ≠ 2; omega) xl
      (simp (disch := first | decide | omega | (simp only [nx]; first | done | omega)) only [go_sem, y0, ln, yl, lo]; (repeat with_reducible refine aI ?_))
      have hl3 := hT3.lt yl
      have uo : (T3.set jl (.box 44 (n.1.map bD ++ (o.1.map bD).drop 32))).ob (St.nil.next + 1) = some (.box 44 (o.1.map bD)) := by rw [set_ob, if_neg (by show (1 : Nat) ≠ jl; omega)]; exact yo
      have ur : RoomAt (St.nil.next + 1 + 1) [⟨n, [], [o]⟩] 3 (T3.set jl (.box 44 (n.1.map bD ++ (o.1.map bD).drop 32))) := by
        obtain ⟨own, r1, r2⟩ := hr3.ex
        refine ⟨own, by rw [set_ob, if_neg (by show (2 : Nat) ≠ jl; omega)]; exact r1, ?_⟩
        rcases r2 with r2 | ⟨g, r3, r4⟩
        · exact .inl r2
        · exact .inr ⟨g, r3, by rw [set_ob, if_neg (fun e => by rw [e, yl] at r4; cases r4)]; exact r4⟩
      have uw : (T3.set jl (.box 44 (n.1.map bD ++ (o.1.map bD).drop 32))).WF := hT3.set hl3 _
      generalize T3.set jl (.box 44 (n.1.map bD ++ (o.1.map bD).drop 32)) = U0 at *
      refine dloop_fuel 1 uw (by kernel_rfl) ?_
      rw [loopN_eq]
      have b3 : decide ((0 : Int) < 0) = false := by decide
      have lz : (([] : List D).length : Int) = 0 := rfl
      (simp (disch := first | decide | omega | (simp only [nx]; first | done | omega)) only [go_sem, b3, lz, int_zero, uo, lo]; (repeat with_reducible refine aI ?_))
      refine DCalls.mono (DCalls.wf (done_at ur (by show 1 ≤ 1000000; omega) (fun g hg => by
        obtain rfl := List.mem_singleton.1 hg
        exact ⟨by simp, List.pairwise_singleton _ _, by show 1 ≤ 1000000; omega, by show 0 ≤ 1000000; omega⟩) o)) ?_
      rintro d T4 ⟨⟨rfl, hr4, hf4⟩, hT4⟩
      have ho4 : outG [⟨n, [], [o]⟩] o = [[]] := by simp [outG, cutG]
      rw [ho4]
      have c2 : (((1 : Nat) : Int) == 1) = true := by decide
      have c3 : (encB []).cells.length = 1 := rfl
      have c4 : (0 : Int) < ((1 : Nat) : Int) := by decide
      have c7 : (encB []).cells.getD 0 undefD = .sl .no (([] : List UInt8).map bD) := rfl
      (simp (disch := first | decide | omega | (simp only [nx]; first | done | omega)) only [go_sem, bnil_eq, c2, c3, c4, c7, Nat.lt_add_one]; (repeat with_reducible refine aI ?_))
      refine DCalls.of_pure (bytesEq_d .no .no [] [] (by decide) (by decide)) ?_
      rw [decide_eq_true (rfl : ([] : List UInt8) = [])]
      (simp (disch := first | decide | omega | (simp only [nx]; first | done | omega)) only [go_sem]; (repeat with_reducible refine aI ?_))
      refine DCalls.of_pure awake_d ?_
      (simp (disch := first | decide | omega | (simp only [nx]; first | done | omega)) only [go_sem]; (repeat with_reducible refine aI ?_))
      exact ⟨rfl, Nat.zero_le _, fun _ _ h => by cases h⟩
    · refine s_opwE [encH o] (o.1.map bD) rfl rfl flo elHs zeHs rfl (by rw [szHs]; omega) (by intro d hd; obtain rfl := List.mem_singleton.1 hd; exact ⟨rfl, by rw [szHs]; exact width_encH o⟩) ?_
      refine ⟨fun j x e => by have := hT.lt e; rw [add_ob, if_neg (by omega)]; exact e, ?_⟩
      refine s_split [2] (by kernel_rfl) (by simp) ?_
      intro j_ hj_
      obtain rfl : j_ = 2 := by simpa using hj_
      refine s_op rfl ?_
      (simp (disch := first | decide | omega | (simp only [nx]; first | done | omega)) only [go_sem]; (repeat with_reducible refine aI ?_))
      refine app_more elBy zeBy (.inl rfl) (fun _ h => by cases h) (fun _ h => by cases h) (by simp) (by simp) ?_
      refine ⟨fun j x e => by have := hT.lt e; have hne : j ≠ T.next + 1 := (by omega); refine (if_neg hne).trans ?_; show (T.add (.box 44 (o.1.map bD))).ob j = some x; rw [add_ob, if_neg (by omega)]; exact e, ?_⟩
      (refine s_take 5 rfl (by kernel_rfl) (by kernel_rfl) (v := ?v16) (fun S' hz => dquietR_of ?h16) <| s_take 6 rfl (by kernel_rfl) (by kernel_rfl) (v := ?v17) (fun S' hz => dquietR_of ?h17) <| ?k17; (case h16 | h17 => ((simp (disch := first | decide | omega | (simp only [nx]; first | done | omega)) only [go_sem, hz, hz]; (repeat with_reducible refine aI ?_)); first | done | exact rfl | omega)))
      have hz0 : (St.nil.next = T.next + 1) = False := eq_false (by show ¬ (0 = T.next + 1); omega)
      have hz1 : (St.nil.next = T.next) = False := eq_false (by show ¬ (0 = T.next); omega)
      have hz2 : (T.add (.box 44 (o.1.map bD))).ob St.nil.next = some (.box 44 (n.1.map bD)) := by rw [add_ob, if_neg (by show ¬ (0 = T.next); omega)]; exact hn0
      (refine s_done (by kernel_rfl) ?_; (simp (disch := first | decide | omega | (simp only [nx]; first | done | omega)) only [go_sem, hz0, hz1, hz2, hn0, ln, if_false]; (repeat with_reducible refine aI ?_)))
      have low : ∀ j x, T.ob j = some x → ((T.add (.box 44 (o.1.map bD))).grow .full 5 0).ob j = some x := fun j x e => by have := hT.lt e; have hne : j ≠ T.next + 1 := (by omega); refine (if_neg hne).trans ?_; show (T.add (.box 44 (o.1.map bD))).ob j = some x; rw [add_ob, if_neg (by omega)]; exact e
      have x0 := low _ _ hn0
      have xo := low _ _ ho0
      have xl : ((T.add (.box 44 (o.1.map bD))).grow .full 5 0).ob (T.next) = some (.box 44 (o.1.map bD)) := by have hne : T.next ≠ T.next + 1 := (by omega); refine (if_neg hne).trans ?_; show (T.add (.box 44 (o.1.map bD))).ob T.next = _; rw [add_ob]; exact if_pos rfl
      have xr : RoomAt (St.nil.next + 1 + 1) [] 3 ((T.add (.box 44 (o.1.map bD))).grow .full 5 0) := hrm.mono low
      have xw : ((T.add (.box 44 (o.1.map bD))).grow .full 5 0).WF := (by (repeat' first | assumption | refine St.WF.leave ?_ _ | refine St.WF.add ?_ _ | refine St.WF.set ?_ ?_ _ | refine St.WF.grow ?_ _ _ _ | refine St.WF.keep ?_ ?_ | (first | omega | (simp only [RowOk.lo, nx]; first | done | omega))))
      have hj3 : 3 ≤ T.next := by omega
      obtain ⟨jl, hjl⟩ : ∃ j, j = T.next := ⟨_, rfl⟩
      rw [← hjl] at xl hj3
      rw [show D.win T.next 0 1 1 = D.win jl 0 1 1 by rw [hjl]]
      generalize (T.add (.box 44 (o.1.map bD))).grow .full 5 0 = S2 at *
      clear hjl
      try (simp (disch := first | decide | omega | (simp only [nx]; first | done | omega)) only [go_sem, x0, ln]; (repeat with_reducible refine aI ?_))
      have srt : sortH [o] = [o] := ascH_ext (ascH_sortH _) (List.pairwise_singleton _ _) fun m => mem_sortH _ m
      refine DCalls.mono (DCalls.wf (addW_at xr (by decide) n (.sl (.row (T.next + 1)) []) jl 1 [] [o] rfl (by simp) (by decide) (fun U hU => clone_d (.row (T.next + 1)) [] (by decide) U) (fun U hU => hsortW_at (l := [o]) (c := 1) (zs := []) (by rw [ownOb_box (by omega)]; show U.ob jl = some (.box _ (flat [encH o] ++ [])); rw [flo, List.append_nil]; exact hU jl _ _ xl) (Nat.le_refl _) (by show 1 ≤ 1000000; omega)))) ?_
      rintro d T3 ⟨⟨rfl, hr3, hf3⟩, hT3⟩
      rw [List.nil_append, srt] at hr3
      have y0 := hf3.box St.nil.next _ _ (by show (0 : Nat) ≠ 2; omega) x0
      have yo := hf3.box (St.nil.next + 1) _ _ (by show (1 : Nat) ≠ 2; omega) xo
      have yl := hf3.box jl _ _ (by show jl ≠ 2; omega) xl
      (simp (disch := first | decide | omega | (simp only [nx]; first | done | omega)) only [go_sem, y0, ln, yl, lo]; (repeat with_reducible refine aI ?_))
      have hl3 := hT3.lt yl
      have uo : (T3.set jl (.box 44 (n.1.map bD ++ (o.1.map bD).drop 32))).ob (St.nil.next + 1) = some (.box 44 (o.1.map bD)) := by rw [set_ob, if_neg (by show (1 : Nat) ≠ jl; omega)]; exact yo
      have ur : RoomAt (St.nil.next + 1 + 1) [⟨n, [], [o]⟩] 3 (T3.set jl (.box 44 (n.1.map bD ++ (o.1.map bD).drop 32))) := by
        obtain ⟨own, r1, r2⟩ := hr3.ex
        refine ⟨own, by rw [set_ob, if_neg (by show (2 : Nat) ≠ jl; omega)]; exact r1, ?_⟩
        rcases r2 with r2 | ⟨g, r3, r4⟩
        · exact .inl r2
        · exact .inr ⟨g, r3, by rw [set_ob, if_neg (fun e => by rw [e, yl] at r4; cases r4)]; exact r4⟩
      have uw : (T3.set jl (.box 44 (n.1.map bD ++ (o.1.map bD).drop 32))).WF := hT3.set hl3 _
      generalize T3.set jl (.box 44 (n.1.map bD ++ (o.1.map bD).drop 32)) = U0 at *
      refine dloop_fuel 1 uw (by kernel_rfl) ?_
      rw [loopN_eq]
      have b3 : decide ((0 : Int) < 0) = false := by decide
      have lz : (([] : List D).length : Int) = 0 := rfl
      (simp (disch := first | decide | omega | (simp only [nx]; first | done | omega)) only [go_sem, b3, lz, int_zero, uo, lo]; (repeat with_reducible refine aI ?_))
      refine DCalls.mono (DCalls.wf (done_at ur (by show 1 ≤ 1000000; omega) (fun g hg => by
        obtain rfl := List.mem_singleton.1 hg
        exact ⟨by simp, List.pairwise_singleton _ _, by show 1 ≤ 1000000; omega, by show 0 ≤ 1000000; omega⟩) o)) ?_
      rintro d T4 ⟨⟨rfl, hr4, hf4⟩, hT4⟩
      have ho4 : outG [⟨n, [], [o]⟩] o = [[]] := by simp [outG, cutG]
      rw [ho4]
      have c2 : (((1 : Nat) : Int) == 1) = true := by decide
      have c3 : (encB []).cells.length = 1 := rfl
      have c4 : (0 : Int) < ((1 : Nat) : Int) := by decide
      have c7 : (encB []).cells.getD 0 undefD = .sl .no (([] : List UInt8).map bD) := rfl
      (simp (disch := first | decide | omega | (simp only [nx]; first | done | omega)) only [go_sem, bnil_eq, c2, c3, c4, c7, Nat.lt_add_one]; (repeat with_reducible refine aI ?_))
      refine DCalls.of_pure (bytesEq_d .no .no [] [] (by decide) (by decide)) ?_
      rw [decide_eq_true (rfl : ([] : List UInt8) = [])]
      (simp (disch := first | decide | omega | (simp only [nx]; first | done | omega)) only [go_sem]; (repeat with_reducible refine aI ?_))
      refine DCalls.of_pure awake_d ?_
      (simp (disch := first | decide | omega | (simp only [nx]; first | done | omega)) only [go_sem]; (repeat with_reducible refine aI ?_))
      exact ⟨rfl, Nat.zero_le _, fun _ _ h => by cases h⟩
  have hb0' : 0 < b.length := List.length_pos_iff.2 hb0
  refine ddraw_any (fun S' => ∀ j x, T.ob j = some x → S'.ob j = some x) 7 (fun _ _ e => e) (by kernel_rfl) ?_
  (refine s_take 0 rfl (by kernel_rfl) (by kernel_rfl) (v := ?v18) (fun S' hz => dquietR_of ?h18) <| s_take 1 rfl (by kernel_rfl) (by kernel_rfl) (v := ?v19) (fun S' hz => dquietR_of ?h19) <| ?k19; (case h18 | h19 => ((simp (disch := first | decide | omega | (simp only [nx]; first | done | omega)) only [go_sem, hz, hz]; (repeat with_reducible refine aI ?_)); first | done | exact rfl | omega)))
  refine s_take 3 rfl (by kernel_rfl) (by kernel_rfl) (v := encH o) (fun S' hz => dquietR_of ?hqz) ?kqz; (case hqz => (have hz1 := hz _ _ ho0; (simp (disch := first | decide | omega | (simp only [nx]; first | done | omega)) only [go_sem, hz1, lo]; (repeat with_reducible refine aI ?_)); try exact ⟨Nat.le_refl _, rfl⟩))
  refine s_split [2, 4] (by kernel_rfl) (by simp) ?_
  intro j_ hj_
  simp only [List.mem_cons, List.not_mem_nil, or_false] at hj_
  rcases hj_ with rfl | rfl
  · refine s_op rfl ?_
    (simp (disch := first | decide | omega | (simp only [nx]; first | done | omega)) only [go_sem]; (repeat with_reducible refine aI ?_))
    refine dapp_nil elBy (dappend_fresh elBy (by rw [elBy]; rfl) zeBy zoBy (es2 := b.map bD) (srcOk_sl (by rw [szBy]; exact wBy b)) rfl (by rw [List.length_map]; omega) (by rw [byBy, List.length_map]; omega) fun c zs h1 h2 => ?_)
    rw [List.length_map] at *
    refine ⟨fun j x e => by have := hT.lt e; rw [add_ob, if_neg (by omega)]; exact e, ?_⟩
    (refine s_take 5 rfl (by kernel_rfl) (by kernel_rfl) (v := ?v20) (fun S' hz => dquietR_of ?h20) ?k20; (case h20 => ((simp (disch := first | decide | omega | (simp only [nx]; first | done | omega)) only [go_sem, hz, hz]; (repeat with_reducible refine aI ?_)); first | done | exact rfl | omega)))
    refine s_split [4] (by kernel_rfl) (by simp) ?_
    intro j_ hj_
    obtain rfl : j_ = 4 := by simpa using hj_
    refine s_opwE [encH o] (o.1.map bD) rfl rfl flo elHs zeHs rfl (by rw [szHs]; omega) (by intro d hd; obtain rfl := List.mem_singleton.1 hd; exact ⟨rfl, by rw [szHs]; exact width_encH o⟩) ?_
    refine ⟨fun j x e => by have := hT.lt e; rw [add_ob, if_neg (by show j ≠ T.next + 1; omega), add_ob, if_neg (by omega)]; exact e, ?_⟩
    (refine s_take 6 rfl (by kernel_rfl) (by kernel_rfl) (v := ?v21) (fun S' hz => dquietR_of ?h21) ?k21; (case h21 => ((simp (disch := first | decide | omega | (simp only [nx]; first | done | omega)) only [go_sem, hz, hz]; (repeat with_reducible refine aI ?_)); first | done | exact rfl | omega)))
    (refine s_done (by kernel_rfl) ?_; (simp (disch := first | decide | omega | (simp only [nx]; first | done | omega)) only [go_sem, hT]; (repeat with_reducible refine aI ?_)))
    have x0 : ((T.add (ownOb 5 (b.map bD) zs c)).add (.box 44 (o.1.map bD))).ob St.nil.next = some (.box 44 (n.1.map bD)) := by rw [add_ob, if_neg (by show (0 : Nat) ≠ T.next + 1; omega), add_ob, if_neg (by show (0 : Nat) ≠ T.next; omega)]; exact hn0
    have xo : ((T.add (ownOb 5 (b.map bD) zs c)).add (.box 44 (o.1.map bD))).ob (St.nil.next + 1) = some (.box 44 (o.1.map bD)) := by rw [add_ob, if_neg (by show (1 : Nat) ≠ T.next + 1; omega), add_ob, if_neg (by show (1 : Nat) ≠ T.next; omega)]; exact ho0
    have xc : ((T.add (ownOb 5 (b.map bD) zs c)).add (.box 44 (o.1.map bD))).ob (T.next) = some (ownOb 5 (b.map bD) zs c) := by rw [add_ob, if_neg (by show T.next ≠ T.next + 1; omega), add_ob, if_pos rfl]
    have xl : ((T.add (ownOb 5 (b.map bD) zs c)).add (.box 44 (o.1.map bD))).ob (T.next + 1) = some (.box 44 (o.1.map bD)) := by rw [add_ob]; exact if_pos rfl
    have xr : RoomAt (St.nil.next + 1 + 1) [] 3 ((T.add (ownOb 5 (b.map bD) zs c)).add (.box 44 (o.1.map bD))) := hrm.mono fun j x e => by have := hT.lt e; rw [add_ob, if_neg (by show j ≠ T.next + 1; omega), add_ob, if_neg (by omega)]; exact e
    have xw : ((T.add (ownOb 5 (b.map bD) zs c)).add (.box 44 (o.1.map bD))).WF := (hT.add _).add _
    obtain ⟨jc, hjc⟩ : ∃ j, j = T.next := ⟨_, rfl⟩
    obtain ⟨jl, hjl⟩ : ∃ j, j = T.next + 1 := ⟨_, rfl⟩
    have hjj : jc ≠ jl := by omega
    have hj3 : 3 ≤ jc ∧ 3 ≤ jl := by omega
    rw [← hjc] at xc
    rw [← hjl] at xl
    rw [← hjl, ← hjc]
    generalize (T.add (ownOb 5 (b.map bD) zs c)).add (.box 44 (o.1.map bD)) = S2 at *
    clear hjc hjl
    (simp (disch := first | decide | omega | (simp only [nx]; first | done | omega)) only [go_sem, x0, ln]; (repeat with_reducible refine aI ?_))
    have hc0 : 0 < c := by omega
    have xc' : S2.ob jc = some (.box 5 (flat (b.map bD) ++ zs)) := by rw [xc, ownOb_box hc0]
    have srt : sortH [o] = [o] := ascH_ext (ascH_sortH _) (List.pairwise_singleton _ _) fun m => mem_sortH _ m
    refine DCalls.mono (DCalls.wf (addW_at xr (by decide) n (.win jc 0 b.length c) jl 1 b [o] rfl (by simp) (by decide) (fun U hU => cloneW_at (zs := zs) (c := c) (by rw [ownOb_box hc0]; exact hU jc _ _ xc') hb0' h1 (by omega)) (fun U hU => hsortW_at (l := [o]) (c := 1) (zs := []) (by rw [ownOb_box (by omega)]; show U.ob jl = some (.box _ (flat [encH o] ++ [])); rw [flo, List.append_nil]; exact hU jl _ _ xl) (Nat.le_refl _) (by show 1 ≤ 1000000; omega)))) ?_
    rintro d T3 ⟨⟨rfl, hr3, hf3⟩, hT3⟩
    rw [List.nil_append, srt] at hr3
    have y0 := hf3.box St.nil.next _ _ (by show (0 : Nat) ≠ 2; omega) x0
    have yo := hf3.box (St.nil.next + 1) _ _ (by show (1 : Nat) ≠ 2; omega) xo
    have yc := hf3.box jc _ _ (by show jc ≠ 2; omega) xc'
    have yl := hf3.box jl _ _ (by show jl ≠ 2; omega) xl
    (simp (disch := first | decide | omega | (simp only [nx]; first | done | omega)) only [go_sem, y0, ln, yl, lo]; (repeat with_reducible refine aI ?_))
    have hl3 := hT3.lt yl
    have u0 : (T3.set jl (.box 44 (n.1.map bD ++ (o.1.map bD).drop 32))).ob St.nil.next = some (.box 44 (n.1.map bD)) := by rw [set_ob, if_neg (by show (0 : Nat) ≠ jl; omega)]; exact y0
    have uo : (T3.set jl (.box 44 (n.1.map bD ++ (o.1.map bD).drop 32))).ob (St.nil.next + 1) = some (.box 44 (o.1.map bD)) := by rw [set_ob, if_neg (by show (1 : Nat) ≠ jl; omega)]; exact yo
    have uc : (T3.set jl (.box 44 (n.1.map bD ++ (o.1.map bD).drop 32))).ob jc = some (.box 5 (flat (b.map bD) ++ zs)) := by rw [set_ob, if_neg hjj]; exact yc
    have ur : RoomAt (St.nil.next + 1 + 1) [⟨n, b, [o]⟩] 3 (T3.set jl (.box 44 (n.1.map bD ++ (o.1.map bD).drop 32))) := by
      obtain ⟨own, r1, r2⟩ := hr3.ex
      refine ⟨own, by rw [set_ob, if_neg (by show (2 : Nat) ≠ jl; omega)]; exact r1, ?_⟩
      rcases r2 with r2 | ⟨g, r3, r4⟩
      · exact .inl r2
      · exact .inr ⟨g, r3, by rw [set_ob, if_neg (fun e => by rw [e, yl] at r4; cases r4)]; exact r4⟩
    have uw : (T3.set jl (.box 44 (n.1.map bD ++ (o.1.map bD).drop 32))).WF := hT3.set hl3 _
    generalize T3.set jl (.box 44 (n.1.map bD ++ (o.1.map bD).drop 32)) = U0 at *
    refine dloop_up (fun t => List.contains [12, 46, 47, 48, 49, 50, 51, 52, 53, 54, 55, 56, 57, 58, 59] t) (by kernel_rfl) (by exact uw) b.length (fun i q T => i ≤ b.length ∧ q 12 = .v (.int .i64 ((i : Nat) : Int)) ∧ (∃ cs, T.ob jc = some (.box 5 cs) ∧ b.length ≤ cs.length ∧ ∀ j, j < b.length → ∃ x : Int, cs.getD j undefD = .v (.int .u8 x)) ∧ (∀ j x, j ≠ jc → U0.ob j = some x → T.ob j = some x))
      ⟨by omega, by (first | (simp (disch := first | decide | omega | (simp only [nx]; first | done | omega)) only [go_sem]; first | done | rfl) | rfl), ⟨_, uc, by rw [flat_bD, List.length_append, List.length_map]; omega, fun j hj => ⟨(b[j].toNat : Int), by rw [flat_bD, List.getD_eq_getElem?_getD, List.getElem?_append_left (by rw [List.length_map]; exact hj), List.getElem?_map, List.getElem?_eq_getElem hj]; rfl⟩⟩, fun _ _ _ e => e⟩ ?_
    rintro i q V hV hg ⟨le, q12, ⟨cs, vc, vl, vx⟩, hkp⟩
    (have q2 := hg 2 rfl; have q4 := hg 4 rfl; have q6 := hg 6 rfl; have q7 := hg 7 rfl; have q9 := hg 9 rfl; have q11 := hg 11 rfl; simp (disch := first | decide | omega | (simp only [nx]; first | done | omega)) only [go_sem] at q2 q4 q6 q7 q9 q11; clear hg)
    by_cases hlt : i < b.length
    · have b3 : decide ((i : Int) < (b.length : Int)) = true := decide_eq_true (by omega)
      have w1 : IntKind.i64.wrap ((i : Int) + 1) = ((i + 1 : Nat) : Int) := IntWalk.i64_in _ ⟨by omega, by omega⟩
      obtain ⟨x, hx⟩ := vx i hlt
      have hvl : i < cs.length := by omega
      have hx' : cs.getD (i * 1) undefD = .v (.int .u8 x) := by rw [Nat.mul_one]; exact hx
      (simp (disch := first | decide | omega | (simp only [nx]; first | done | omega)) only [go_sem, q2, q7, q9, q12, b3, hlt, vc, hx', hvl, w1]; (repeat with_reducible refine aI ?_))
      refine ⟨by omega, (V.set jc (.box 5 (cs.take (i * 1) ++ [.v (.int .u8 (IntKind.u8.wrap (x + 1)))] ++ cs.drop (i * 1 + 1)))).ob, fun _ _ h => h, by omega, by (first | (simp (disch := first | decide | omega | (simp only [nx]; first | done | omega)) only [go_sem, w1]; first | done | rfl) | rfl), ⟨_, by rw [set_ob, if_pos rfl], by simp only [List.length_append, List.length_take, List.length_drop, List.length_cons, List.length_nil]; omega, fun j hj => ?_⟩, fun j x hj e => by rw [set_ob, if_neg hj]; exact hkp j x hj e⟩
      rw [Nat.mul_one]
      by_cases hji : j = i
      · subst hji
        exact ⟨_, by rw [List.append_assoc, List.getD_eq_getElem?_getD, List.getElem?_append_right (by rw [List.length_take]; omega), List.length_take, Nat.min_eq_left (by omega), Nat.sub_self]; rfl⟩
      · obtain ⟨x', hx2⟩ := vx j hj
        refine ⟨x', ?_⟩
        rw [← hx2]
        have e1 : cs.take i ++ [D.v (.int .u8 (IntKind.u8.wrap (x + 1)))] ++ cs.drop (i + 1) = cs.set i (.v (.int .u8 (IntKind.u8.wrap (x + 1)))) := by rw [List.set_eq_take_append_cons_drop, if_pos hvl]; simp
        rw [e1, List.getD_eq_getElem?_getD, List.getD_eq_getElem?_getD, List.getElem?_set, if_neg (Ne.symm hji)]
    · have b3 : decide ((i : Int) < (b.length : Int)) = false := decide_eq_false (by omega)
      have v0 := hkp St.nil.next _ (by show (0 : Nat) ≠ jc; omega) u0
      have vo := hkp (St.nil.next + 1) _ (by show (1 : Nat) ≠ jc; omega) uo
      have vr : RoomAt (St.nil.next + 1 + 1) [⟨n, b, [o]⟩] 3 V := by
        obtain ⟨own, r1, r2⟩ := ur.ex
        refine ⟨own, hkp _ _ (by show (2 : Nat) ≠ jc; omega) r1, ?_⟩
        rcases r2 with r2 | ⟨g, r3, r4⟩
        · exact .inl r2
        · exact .inr ⟨g, r3, hkp _ _ (fun e => by rw [e, uc] at r4; cases r4) r4⟩
      (simp (disch := first | decide | omega | (simp only [nx]; first | done | omega)) only [go_sem, q2, q4, q7, q9, q11, q12, b3, vo, lo]; (repeat with_reducible refine aI ?_))
      refine DCalls.mono (DCalls.wf (done_at vr (by show 1 ≤ 1000000; omega) (fun g hg => by
        obtain rfl := List.mem_singleton.1 hg
        exact ⟨by simp, List.pairwise_singleton _ _, by show 1 ≤ 1000000; omega, by show b.length ≤ 1000000; omega⟩) o)) ?_
      rintro d T4 ⟨⟨rfl, hr4, hf4⟩, hT4⟩
      have ho4 : outG [⟨n, b, [o]⟩] o = [b] := by simp [outG, cutG]
      rw [ho4]
      have c2 : (((1 : Nat) : Int) == 1) = true := by decide
      have c3 : (encB b).cells.length = 1 := rfl
      have c4 : (0 : Int) < ((1 : Nat) : Int) := by decide
      have c7 : (encB b).cells.getD 0 undefD = .sl .no (b.map bD) := rfl
      (simp (disch := first | decide | omega | (simp only [nx]; first | done | omega)) only [go_sem, q2, q11, bnil_eq, c2, c3, c4, c7, Nat.lt_add_one]; (repeat with_reducible refine aI ?_))
      refine DCalls.of_pure (bytesEq_d .no .no b b (by omega) (by omega)) ?_
      rw [decide_eq_true (rfl : b = b)]
      (simp (disch := first | decide | omega | (simp only [nx]; first | done | omega)) only [go_sem]; (repeat with_reducible refine aI ?_))
      refine DCalls.of_pure awake_d ?_
      (simp (disch := first | decide | omega | (simp only [nx]; first | done | omega)) only [go_sem]; (repeat with_reducible refine aI ?_))
      exact ⟨rfl, Nat.zero_le _, fun _ _ h => by cases h⟩
  · refine s_opwE [encH o] (o.1.map bD) rfl rfl flo elHs zeHs rfl (by rw [szHs]; omega) (by intro d hd; obtain rfl := List.mem_singleton.1 hd; exact ⟨rfl, by rw [szHs]; exact width_encH o⟩) ?_
    refine ⟨fun j x e => by have := hT.lt e; rw [add_ob, if_neg (by omega)]; exact e, ?_⟩
    refine s_split [2] (by kernel_rfl) (by simp) ?_
    intro j_ hj_
    obtain rfl : j_ = 2 := by simpa using hj_
    refine s_op rfl ?_
    (simp (disch := first | decide | omega | (simp only [nx]; first | done | omega)) only [go_sem]; (repeat with_reducible refine aI ?_))
    refine dapp_nil elBy (dappend_fresh elBy (by rw [elBy]; rfl) zeBy zoBy (es2 := b.map bD) (srcOk_sl (by rw [szBy]; exact wBy b)) rfl (by rw [List.length_map]; omega) (by rw [byBy, List.length_map]; omega) fun c zs h1 h2 => ?_)
    rw [List.length_map] at *
    refine ⟨fun j x e => by have := hT.lt e; rw [add_ob, if_neg (by show j ≠ T.next + 1; omega), add_ob, if_neg (by omega)]; exact e, ?_⟩
    (refine s_take 5 rfl (by kernel_rfl) (by kernel_rfl) (v := ?v22) (fun S' hz => dquietR_of ?h22) <| s_take 6 rfl (by kernel_rfl) (by kernel_rfl) (v := ?v23) (fun S' hz => dquietR_of ?h23) <| ?k23; (case h22 | h23 => ((simp (disch := first | decide | omega | (simp only [nx]; first | done | omega)) only [go_sem, hz, hz]; (repeat with_reducible refine aI ?_)); first | done | exact rfl | omega)))
    (refine s_done (by kernel_rfl) ?_; (simp (disch := first | decide | omega | (simp only [nx]; first | done | omega)) only [go_sem, hT]; (repeat with_reducible refine aI ?_)))
    have x0 : ((T.add (.box 44 (o.1.map bD))).add (ownOb 5 (b.map bD) zs c)).ob St.nil.next = some (.box 44 (n.1.map bD)) := by rw [add_ob, if_neg (by show (0 : Nat) ≠ T.next + 1; omega), add_ob, if_neg (by show (0 : Nat) ≠ T.next; omega)]; exact hn0
    have xo : ((T.add (.box 44 (o.1.map bD))).add (ownOb 5 (b.map bD) zs c)).ob (St.nil.next + 1) = some (.box 44 (o.1.map bD)) := by rw [add_ob, if_neg (by show (1 : Nat) ≠ T.next + 1; omega), add_ob, if_neg (by show (1 : Nat) ≠ T.next; omega)]; exact ho0
    have xc : ((T.add (.box 44 (o.1.map bD))).add (ownOb 5 (b.map bD) zs c)).ob (T.next + 1) = some (ownOb 5 (b.map bD) zs c) := by rw [add_ob]; exact if_pos rfl
    have xl : ((T.add (.box 44 (o.1.map bD))).add (ownOb 5 (b.map bD) zs c)).ob (T.next) = some (.box 44 (o.1.map bD)) := by rw [add_ob, if_neg (by show T.next ≠ T.next + 1; omega), add_ob, if_pos rfl]
    have xr : RoomAt (St.nil.next + 1 + 1) [] 3 ((T.add (.box 44 (o.1.map bD))).add (ownOb 5 (b.map bD) zs c)) := hrm.mono fun j x e => by have := hT.lt e; rw [add_ob, if_neg (by show j ≠ T.next + 1; omega), add_ob, if_neg (by omega)]; exact e
    have xw : ((T.add (.box 44 (o.1.map bD))).add (ownOb 5 (b.map bD) zs c)).WF := (hT.add _).add _
    obtain ⟨jc, hjc⟩ : ∃ j, j = T.next + 1 := ⟨_, rfl⟩
    obtain ⟨jl, hjl⟩ : ∃ j, j = T.next := ⟨_, rfl⟩
    have hjj : jc ≠ jl := by omega
    have hj3 : 3 ≤ jc ∧ 3 ≤ jl := by omega
    rw [← hjc] at xc
    rw [← hjl] at xl
    rw [← hjc, ← hjl]
    generalize (T.add (.box 44 (o.1.map bD))).add (ownOb 5 (b.map bD) zs c) = S2 at *
    clear hjc hjl
    (simp (disch := first | decide | omega | (simp only [nx]; first | done | omega)) only [go_sem, x0, ln]; (repeat with_reducible refine aI ?_))
    have hc0 : 0 < c := by omega
    have xc' : S2.ob jc = some (.box 5 (flat (b.map bD) ++ zs)) := by rw [xc, ownOb_box hc0]
    have srt : sortH [o] = [o] := ascH_ext (ascH_sortH _) (List.pairwise_singleton _ _) fun m => mem_sortH _ m
    refine DCalls.mono (DCalls.wf (addW_at xr (by decide) n (.win jc 0 b.length c) jl 1 b [o] rfl (by simp) (by decide) (fun U hU => cloneW_at (zs := zs) (c := c) (by rw [ownOb_box hc0]; exact hU jc _ _ xc') hb0' h1 (by omega)) (fun U hU => hsortW_at (l := [o]) (c := 1) (zs := []) (by rw [ownOb_box (by omega)]; show U.ob jl = some (.box _ (flat [encH o] ++ [])); rw [flo, List.append_nil]; exact hU jl _ _ xl) (Nat.le_refl _) (by show 1 ≤ 1000000; omega)))) ?_
    rintro d T3 ⟨⟨rfl, hr3, hf3⟩, hT3⟩
    rw [List.nil_append, srt] at hr3
    have y0 := hf3.box St.nil.next _ _ (by show (0 : Nat) ≠ 2; omega) x0
    have yo := hf3.box (St.nil.next + 1) _ _ (by show (1 : Nat) ≠ 2; omega) xo
    have yc := hf3.box jc _ _ (by show jc ≠ 2; omega) xc'
    have yl := hf3.box jl _ _ (by show jl ≠ 2; omega) xl
    (simp (disch := first | decide | omega | (simp only [nx]; first | done | omega)) only [go_sem, y0, ln, yl, lo]; (repeat with_reducible refine aI ?_))
    have hl3 := hT3.lt yl
    have u0 : (T3.set jl (.box 44 (n.1.map bD ++ (o.1.map bD).drop 32))).ob St.nil.next = some (.box 44 (n.1.map bD)) := by rw [set_ob, if_neg (by show (0 : Nat) ≠ jl; omega)]; exact y0
    have uo : (T3.set jl (.box 44 (n.1.map bD ++ (o.1.map bD).drop 32))).ob (St.nil.next + 1) = some (.box 44 (o.1.map bD)) := by rw [set_ob, if_neg (by show (1 : Nat) ≠ jl; omega)]; exact yo
    have uc : (T3.set jl (.box 44 (n.1.map bD ++ (o.1.map bD).drop 32))).ob jc = some (.box 5 (flat (b.map bD) ++ zs)) := by rw [set_ob, if_neg hjj]; exact yc
    have ur : RoomAt (St.nil.next + 1 + 1) [⟨n, b, [o]⟩] 3 (T3.set jl (.box 44 (n.1.map bD ++ (o.1.map bD).drop 32))) := by
      obtain ⟨own, r1, r2⟩ := hr3.ex
      refine ⟨own, by rw [set_ob, if_neg (by show (2 : Nat) ≠ jl; omega)]; exact r1, ?_⟩
      rcases r2 with r2 | ⟨g, r3, r4⟩
      · exact .inl r2
      · exact .inr ⟨g, r3, by rw [set_ob, if_neg (fun e => by rw [e, yl] at r4; cases r4)]; exact r4⟩
    have uw : (T3.set jl (.box 44 (n.1.map bD ++ (o.1.map bD).drop 32))).WF := hT3.set hl3 _
    generalize T3.set jl (.box 44 (n.1.map bD ++ (o.1.map bD).drop 32)) = U0 at *
    refine dloop_up (fun t => List.contains [12, 46, 47, 48, 49, 50, 51, 52, 53, 54, 55, 56, 57, 58, 59] t) (by kernel_rfl) (by exact uw) b.length (fun i q T => i ≤ b.length ∧ q 12 = .v (.int .i64 ((i : Nat) : Int)) ∧ (∃ cs, T.ob jc = some (.box 5 cs) ∧ b.length ≤ cs.length ∧ ∀ j, j < b.length → ∃ x : Int, cs.getD j undefD = .v (.int .u8 x)) ∧ (∀ j x, j ≠ jc → U0.ob j = some x → T.ob j = some x))
      ⟨by omega, by (first | (simp (disch := first | decide | omega | (simp only [nx]; first | done | omega)) only [go_sem]; first | done | rfl) | rfl), ⟨_, uc, by rw [flat_bD, List.length_append, List.length_map]; omega, fun j hj => ⟨(b[j].toNat : Int), by rw [flat_bD, List.getD_eq_getElem?_getD, List.getElem?_append_left (by rw [List.length_map]; exact hj), List.getElem?_map, List.getElem?_eq_getElem hj]; rfl⟩⟩, fun _ _ _ e => e⟩ ?_
    rintro i q V hV hg ⟨le, q12, ⟨cs, vc, vl, vx⟩, hkp⟩
    (have q2 := hg 2 rfl; have q4 := hg 4 rfl; have q6 := hg 6 rfl; have q7 := hg 7 rfl; have q9 := hg 9 rfl; have q11 := hg 11 rfl; simp (disch := first | decide | omega | (simp only [nx]; first | done | omega)) only [go_sem] at q2 q4 q6 q7 q9 q11; clear hg)
    by_cases hlt : i < b.length
    · have b3 : decide ((i : Int) < (b.length : Int)) = true := decide_eq_true (by omega)
      have w1 : IntKind.i64.wrap ((i : Int) + 1) = ((i + 1 : Nat) : Int) := IntWalk.i64_in _ ⟨by omega, by omega⟩
      obtain ⟨x, hx⟩ := vx i hlt
      have hvl : i < cs.length := by omega
      have hx' : cs.getD (i * 1) undefD = .v (.int .u8 x) := by rw [Nat.mul_one]; exact hx
      (simp (disch := first | decide | omega | (simp only [nx]; first | done | omega)) only [go_sem, q2, q7, q9, q12, b3, hlt, vc, hx', hvl, w1]; (repeat with_reducible refine aI ?_))
      refine ⟨by omega, (V.set jc (.box 5 (cs.take (i * 1) ++ [.v (.int .u8 (IntKind.u8.wrap (x + 1)))] ++ cs.drop (i * 1 + 1)))).ob, fun _ _ h => h, by omega, by (first | (simp (disch := first | decide | omega | (simp only [nx]; first | done | omega)) only [go_sem, w1]; first | done | rfl) | rfl), ⟨_, by rw [set_ob, if_pos rfl], by simp only [List.length_append, List.length_take, List.length_drop, List.length_cons, List.length_nil]; omega, fun j hj => ?_⟩, fun j x hj e => by rw [set_ob, if_neg hj]; exact hkp j x hj e⟩
      rw [Nat.mul_one]
      by_cases hji : j = i
      · subst hji
        exact ⟨_, by rw [List.append_assoc, List.getD_eq_getElem?_getD, List.getElem?_append_right (by rw [List.length_take]; omega), List.length_take, Nat.min_eq_left (by omega), Nat.sub_self]; rfl⟩
      · obtain ⟨x', hx2⟩ := vx j hj
        refine ⟨x', ?_⟩
        rw [← hx2]
        have e1 : cs.take i ++ [D.v (.int .u8 (IntKind.u8.wrap (x + 1)))] ++ cs.drop (i + 1) = cs.set i (.v (.int .u8 (IntKind.u8.wrap (x + 1)))) := by rw [List.set_eq_take_append_cons_drop, if_pos hvl]; simp
        rw [e1, List.getD_eq_getElem?_getD, List.getD_eq_getElem?_getD, List.getElem?_set, if_neg (Ne.symm hji)]
    · have b3 : decide ((i : Int) < (b.length : Int)) = false := decide_eq_false (by omega)
      have v0 := hkp St.nil.next _ (by show (0 : Nat) ≠ jc; omega) u0
      have vo := hkp (St.nil.next + 1) _ (by show (1 : Nat) ≠ jc; omega) uo
      have vr : RoomAt (St.nil.next + 1 + 1) [⟨n, b, [o]⟩] 3 V := by
        obtain ⟨own, r1, r2⟩ := ur.ex
        refine ⟨own, hkp _ _ (by show (2 : Nat) ≠ jc; omega) r1, ?_⟩
        rcases r2 with r2 | ⟨g, r3, r4⟩
        · exact .inl r2
        · exact .inr ⟨g, r3, hkp _ _ (fun e => by rw [e, uc] at r4; cases r4) r4⟩
      (simp (disch := first | decide | omega | (simp only [nx]; first | done | omega)) only [go_sem, q2, q4, q7, q9, q11, q12, b3, vo, lo]; (repeat with_reducible refine aI ?_))
      refine DCalls.mono (DCalls.wf (done_at vr (by show 1 ≤ 1000000; omega) (fun g hg => by
        obtain rfl := List.mem_singleton.1 hg
        exact ⟨by simp, List.pairwise_singleton _ _, by show 1 ≤ 1000000; omega, by show b.length ≤ 1000000; omega⟩) o)) ?_
      rintro d T4 ⟨⟨rfl, hr4, hf4⟩, hT4⟩
      have ho4 : outG [⟨n, b, [o]⟩] o = [b] := by simp [outG, cutG]
      rw [ho4]
      have c2 : (((1 : Nat) : Int) == 1) = true := by decide
      have c3 : (encB b).cells.length = 1 := rfl
      have c4 : (0 : Int) < ((1 : Nat) : Int) := by decide
      have c7 : (encB b).cells.getD 0 undefD = .sl .no (b.map bD) := rfl
      (simp (disch := first | decide | omega | (simp only [nx]; first | done | omega)) only [go_sem, q2, q11, bnil_eq, c2, c3, c4, c7, Nat.lt_add_one]; (repeat with_reducible refine aI ?_))
      refine DCalls.of_pure (bytesEq_d .no .no b b (by omega) (by omega)) ?_
      rw [decide_eq_true (rfl : b = b)]
      (simp (disch := first | decide | omega | (simp only [nx]; first | done | omega)) only [go_sem]; (repeat with_reducible refine aI ?_))
      refine DCalls.of_pure awake_d ?_
      (simp (disch := first | decide | omega | (simp only [nx]; first | done | omega)) only [go_sem]; (repeat with_reducible refine aI ?_))
      exact ⟨rfl, Nat.zero_le _, fun _ _ h => by cases h⟩
theorem own_d (n o : H32) (b : List UInt8) : DPure Try.prog 6 [encH n, encH o, .sl .no (b.map bD)] (.v (.bool true)) := dpure_nil (by
  have hc : ∀ m : H32, D.all (fun _ => False) (encH m) := fun m => by
    simp only [D.all, encH]
    exact allL_iff.2 fun d hd => by obtain ⟨b, _, rfl⟩ := List.mem_map.1 hd; simp [bD, D.all]
  simp only [allL, and_true]
  exact ⟨hc n, hc o, closed_bB b⟩) (own_at n o b)
end
end Go.Proofs.Ytonncfminojejaa

namespace Go.Proofs.Ytonncfminojejaa
open Go.ChangeShapes Go.WideShapes Go.ChangeAt Go.RowKit
theorem waitingOwn_own : ownKnob Try.prog.godebug = none := by kernel_rfl
theorem waitingOwn_laidOut : laidOutB Try.prog = true := by kernel_rfl
set_option maxRecDepth 100000 in
theorem waitingOwn_lifted (os : Os) (started : os.Started) (H : Type) (enc : TypeId × Value → H) :
    ReturnsInHanded {} Try.checked os 6 .any (Rows.waitingOwnSpec.pre6 enc Try.prog Try.f6 Rows.waitingOwnRow.domain false) (Rows.waitingOwnSpec.post enc Try.prog Try.f6 false true false false) := by
  refine returnsInHanded_of_change_sized (C := Try.checked) waitingOwn_own started (by kernel_rfl) Try.func6
    (ChangeSpec.witness6 (enc := enc) (C := Try.checked) false ⟨#[], #[.agg (hA.1.map bV).toArray, .agg (hA.1.map bV).toArray, .slice none 0 0], []⟩ 8 (by kernel_rfl) (by kernel_rfl) (by kernel_rfl) (by kernel_rfl)) ?_
  intro W base args ds gs before hval0 hW hcnd hsz0 _
  have hval : ∀ (j : Nat) t v, Try.f6.params[j]? = some t → args[j]? = some v → Value.okWide Try.prog W .any base t v := hval0
  have hsz : (DataW.weightsEach Try.prog (Try.f6.params.toList ++ Rows.waitingOwnSpec.plain.varTypes Try.prog) (ds ++ gs)).all (· ≤ reachBytes) = true := hsz0
  have hW' := hW
  obtain ⟨p, q, hA0, hV, rfl, hfz, hnd⟩ := hW
  have hA : DataW.TrodAll enc Try.prog W 0 (fun _ => true) true Try.f6.params.toList args.toList ds p := hA0
  obtain ⟨rfl, rfl⟩ := trodVars_none hV
  rw [Try.params6] at hA hval hsz
  have hA1 := hA
  obtain ⟨v0, vs0, d0, ds0, p0, q0, hargs, rfl, rfl, h0, r0⟩ := trodAll_cons hA
  obtain ⟨v1, vs1, d1, ds1, p1, q1, rfl, rfl, rfl, h1, r1⟩ := trodAll_cons r0
  obtain ⟨v2, vs2, d2, ds2, p2, q2, rfl, rfl, rfl, h2, r2⟩ := trodAll_cons r1
  obtain ⟨rfl, rfl, rfl⟩ := trodAll_nil r2
  obtain rfl : args = #[v0, v1, v2] := by cases args; simp_all
  have z0 : Sized Try.prog 44 d0 := sized_of_each (j := 0) hsz rfl rfl
  have k0 : Value.okWide Try.prog W .any base 44 v0 := hval 0 _ _ rfl rfl
  have z1 : Sized Try.prog 44 d1 := sized_of_each (j := 1) hsz rfl rfl
  have k1 : Value.okWide Try.prog W .any base 44 v1 := hval 1 _ _ rfl rfl
  have z2 : Sized Try.prog 29 d2 := sized_of_each (j := 2) hsz rfl rfl
  have k2 : Value.okWide Try.prog W .any base 29 v2 := hval 2 _ _ rfl rfl
  clear hA0 hval0 hsz hsz0 hval
  have key : Calls Try.prog 6 #[v0, v1, v2] W (Gives (.bool true) W) := by
    obtain ⟨n, hn⟩ := open_hash h0 k0
    obtain ⟨o, ho⟩ := open_hash h1 k1
    obtain ⟨l, _, _, hl⟩ := open_u8l h2 z2 k2
    exact gives_of_dpure (vs := [v0, v1, v2]) (own_d n o l) (by simp only [RepL]; exact ⟨_, _, rfl, hn _ _, _, _, rfl, ho _ _, _, _, rfl, hl _ _ fix_nil, rfl⟩)
  refine key.mono fun e W' ⟨he, bel⟩ => ?_
  subst he
  exact ⟨_, rfl, _, _, _, [], _, [], hW', trodAll_mk1 (shut_bool Try.underlying4 _), trodAll_below waitingOwn_laidOut bel (by kernel_rfl) hA1, rfl, bel.frame _, fun h => by cases h⟩

theorem waitingOwn_holds : Rows.WaitingOwnSaid :=
  OpenClaim.holds_of_wide 6 Try.f6 rfl rfl rfl rfl rfl rfl rfl ⟨rfl, rfl, rfl, rfl, rfl⟩ rfl rfl rfl rfl rfl (by kernel_rfl) Try.func6 (by kernel_rfl)
    (of_decide_eq_true (by kernel_rfl)) (by unfold Func.isWrapper; first | (rw [if_pos (by decide +kernel)]; kernel_rfl) | (rw [if_neg (by decide +kernel)]; exact ⟨rfl, rfl⟩))
    (fun os started H enc _ => waitingOwn_lifted os started H enc)
#print axioms waitingOwn_holds
end Go.Proofs.Ytonncfminojejaa
