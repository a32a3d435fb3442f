/- Texts of a proof, part 7. Conditions: none. -/
import Derived.Test.YtjjhjhjphhpeiaaGreatDoorD6
set_option linter.unusedVariables false
set_option linter.unusedSimpArgs false
namespace Go.Proofs.YtjjhjhjphhpeiaaGreatDoor
open Go.RowKit
set_option linter.unusedSimpArgs false
set_option linter.unusedVariables false
/-- Where an element comes in behind another one. -/
def plK (v : DVal) (after : Nat) : Nat := if after = 0 then 0 else if after ∈ v.ids then ixN v.ids after + 1 else v.ids.length
theorem plK_le (v : DVal) (after : Nat) : plK v after ≤ v.ids.length := by
  unfold plK
  split
  · omega
  · split
    · rename_i h; exact ix_lt h
    · exact Nat.le_refl _
def DVal.ofList (v : DVal) (is : List Nat) (ps : List DVal) : DVal := .mk v.kind v.n v.s v.names is ps
def plV (v : DVal) (id after : Nat) (x : DVal) : DVal := v.ofList (v.ids.take (plK v after) ++ [id] ++ v.ids.drop (plK v after)) (v.parts.take (plK v after) ++ [x] ++ v.parts.drop (plK v after))
theorem ins_len {α : Type} (l : List α) (x : α) {k : Nat} (h : k ≤ l.length) : (l.take k ++ [x] ++ l.drop k).length = l.length + 1 := by
  simp only [List.length_append, List.length_take, List.length_drop, List.length_cons, List.length_nil]; omega
def tkV (v : DVal) (k : Nat) : DVal := v.ofList (v.ids.take k ++ v.ids.drop (k + 1)) (v.parts.take k ++ v.parts.drop (k + 1))
end Go.Proofs.YtjjhjhjphhpeiaaGreatDoor

namespace Go.Proofs.YtjjhjhjphhpeiaaGreatDoor
open Go.RowKit
set_option linter.unusedSimpArgs false
set_option linter.unusedVariables false
theorem del_len {α : Type} (l : List α) {k : Nat} (h : k < l.length) : (l.take k ++ l.drop (k + 1)).length = l.length - 1 := by
  simp only [List.length_append, List.length_take, List.length_drop]; omega
theorem tkV_ilen {v : DVal} {k : Nat} (h : k < v.ids.length) : (tkV v k).ids.length = v.ids.length - 1 := del_len _ h
theorem tkV_plen {v : DVal} {k : Nat} (h : k < v.parts.length) : (tkV v k).parts.length = v.parts.length - 1 := del_len _ h
def elK (o : DOp) (v : DVal) : Nat := ixN v.ids o.id
/-- What an operation makes of a list. -/
def lsV (o : DOp) (v : DVal) : DVal :=
  if o.kind = 2 then (if o.id ∉ v.ids ∧ v.ids.length < 12 then plV v o.id o.after o.val else v)
  else if o.id ∉ v.ids then v
  else if o.kind = 4 then plV (tkV v (elK o v)) o.id o.after (v.parts.getD (elK o v) default)
  else tkV v (elK o v)
end Go.Proofs.YtjjhjhjphhpeiaaGreatDoor

namespace Go.Proofs.YtjjhjhjphhpeiaaGreatDoor
open Go.RowKit
set_option linter.unusedSimpArgs false
def stepV (v : DVal) (i : Nat) : DStp := if v.kind = 5 then (v.names.getD i [], 0) else ([], v.ids.getD i 0)
/-- What a sound value has of names and numbers. -/
theorem RV.steps {v : DVal} (h : RV v) {i : Nat} (hi : i < v.parts.length) : (v.kind = 5 → i < v.names.length) ∧ (v.kind ≠ 5 → i < v.ids.length) := by
  obtain ⟨h1, h2, h3⟩ := h.here
  refine ⟨fun h5 => ?_, fun h5 => ?_⟩
  · have := h2 (by omega); omega
  · have := h1 h5; omega
end Go.Proofs.YtjjhjhjphhpeiaaGreatDoor

namespace Go.Proofs.YtjjhjhjphhpeiaaGreatDoor
open Go.RowKit
set_option linter.unusedSimpArgs false
theorem valsEq_step (a b : DStp) : valsEq [sv a.1, .int .u64 a.2] [sv b.1, .int .u64 b.2] = decide (a = b) := by
  obtain ⟨a, n⟩ := a
  obtain ⟨b, m⟩ := b
  rw [Bool.eq_iff_iff]
  simp only [valsEq, cellEq, sv, strB, Go.Lib.toList_data, Bool.and_eq_true, beq_iff_eq, decide_eq_true_eq, Prod.mk.injEq, and_true]
  constructor
  · rintro ⟨h1, h2⟩; exact ⟨h1, by omega⟩
  · rintro ⟨h1, h2⟩; exact ⟨h1, by omega⟩
theorem eqOk_step {x y : Operand} (a b : DStp) : EqOk Tryz.prog .eql 79 x y [sv a.1, .int .u64 a.2] [sv b.1, .int .u64 b.2] (valsEq [sv a.1, .int .u64 a.2] [sv b.1, .int .u64 b.2]) ∧ EqOk Tryz.prog .neq 79 x y [sv a.1, .int .u64 a.2] [sv b.1, .int .u64 b.2] (!valsEq [sv a.1, .int .u64 a.2] [sv b.1, .int .u64 b.2]) := by
  obtain ⟨a, n⟩ := a
  obtain ⟨b, m⟩ := b
  constructor
  · intro w
    by_cases h1 : a = b <;> by_cases h2 : (n : Int) = (m : Int) <;> simp [valsEq, cellEq, go_sem, h1, h2]
  · intro w
    by_cases h1 : a = b <;> by_cases h2 : (n : Int) = (m : Int) <;> simp [valsEq, cellEq, go_sem, h1, h2]
section
variable {x y : Operand} (a b : DStp) {K : D → Prop} {K' : D → St → Prop} {S : St}
theorem bin_neqP : dbin Tryz.prog .neq 79 x y (encP a) (encP b) = some (EqOk Tryz.prog .neq 79 x y [sv a.1, .int .u64 a.2] [sv b.1, .int .u64 b.2] (!valsEq [sv a.1, .int .u64 a.2] [sv b.1, .int .u64 b.2]), .v (.bool (!decide (a = b)))) := by
  rw [← valsEq_step]; rfl
theorem onVal_neqP : onVal (dbin Tryz.prog .neq 79 x y (encP a) (encP b)) K = K (.v (.bool (!decide (a = b)))) := by
  rw [bin_neqP, onVal_some]; exact propext ⟨fun h => h.2, fun h => ⟨(eqOk_step a b).2, h⟩⟩
theorem onValS_neqP : onValS (dbin Tryz.prog .neq 79 x y (encP a) (encP b)) K' S = K' (.v (.bool (!decide (a = b)))) S := by
  rw [bin_neqP, onValS_some]; exact propext ⟨fun h => h.2, fun h => ⟨(eqOk_step a b).2, h⟩⟩
end
attribute [go_sem] onVal_neqP onValS_neqP
set_option maxRecDepth 200000 in
set_option maxHeartbeats 8000000 in
theorem refSameP_d (own own2 : Own) (p q : List DStp) (hp : p.length ≤ 1000000) (hq : q.length ≤ 1000000) : DPure Tryz.prog 15 [.sl own (p.map encP), .sl own2 (q.map encP)] (.v (.bool (decide (p = q)))) := by
  refine dpure_of_dwp mixed Tryz.func15 rfl (fun _ _ => by kernel_rfl) (rs := [.tmp 4]) rfl (by kernel_rfl) trivial (fun S hS => ?_)
  by_cases hl : p.length = q.length
  · have b0 : ((p.length : Int) != (q.length : Int)) = false := by simp [hl]
    (simp (disch := first | decide | omega | (simp only [nx]; first | done | omega)) only [go_sem, Nat.reduceMul, b0]; (repeat (with_reducible refine And.intro (by first | omega | assumption | rfl) ?_)))
    (refine dloop_st (fun t => List.contains [4, 5, 11, 12, 13, 14, 15, 16, 17, 18, 19, 20, 21, 22, 23, 24, 25] t) (by kernel_rfl) ?_ (p.length) (fun i f => i ≤ p.length ∧ f 5 = .v (.int .i64 (i : Nat)) ∧ (∀ j, j < i → p[j]? = q[j]?)) ?_ ?_; (exact (by (repeat' first | assumption | refine St.WF.leave ?_ _ | refine St.WF.add ?_ _ | refine St.WF.set ?_ ?_ _ | refine St.WF.grow ?_ _ _ _ | refine St.WF.keep ?_ ?_ | (first | omega | (simp only [RowOk.lo, nx]; first | done | omega))))); (exact ⟨(by omega), (by (first | (simp (disch := first | decide | omega | (simp only [nx]; first | done | omega)) only [go_sem, Nat.reduceMul]; first | done | rfl) | rfl)), (fun j hj => by omega)⟩); intro i g tn hn hT hg hI; obtain ⟨le, q5, hsame⟩ := hI; have q0 := hg 0 rfl; have q1 := hg 1 rfl; simp (disch := first | decide | omega | (simp only [nx]; first | done | omega)) only [go_sem, Nat.reduceMul] at q0 q1; clear hg; have hn' := hn; try simp only [add_next, set_next, grow_next, leave_next, drop_next] at hn')
    by_cases hlt : i < p.length
    · have b1 : decide ((i : Int) < (p.length : Int)) = true := by simp; omega
      have w1 : IntKind.i64.wrap ((i : Int) + 1) = ((i + 1 : Nat) : Int) := IntWalk.i64_in _ ⟨by omega, by omega⟩
      have hlt2 : i < q.length := by omega
      (simp (disch := first | decide | omega | (simp only [nx]; first | done | omega)) only [go_sem, Nat.reduceMul, q0, q1, q5, b1]; (repeat (with_reducible refine And.intro (by first | omega | assumption | rfl) ?_)))
      refine ddraw_mk 9 (by kernel_rfl) ?_
      by_cases hx : p[i] = q[i]
      · have b2 : (!decide (p[i] = q[i])) = false := by simp [hx]
        (simp (disch := first | decide | omega | (simp only [nx]; first | done | omega)) only [go_sem, Nat.reduceMul, q0, q1, q5, b1, b2, w1]; (repeat (with_reducible refine And.intro (by first | omega | assumption | rfl) ?_)))
        (refine ⟨by omega, (by (repeat' first | assumption | exact St.Sub.refl _ | exact RowOk.sub (by assumption) (by assumption) | refine St.Sub.trans ?_ (RowOk.sub (by assumption) (by assumption)) | refine St.Sub.add ?_ ?_ _ | refine St.Sub.set ?_ ?_ ?_ _ | refine St.Sub.keep ?_ ?_ | refine St.WF.leave ?_ _ | refine St.WF.add ?_ _ | refine St.WF.set ?_ ?_ _ | refine St.WF.grow ?_ _ _ _ | refine St.WF.keep ?_ ?_ | (first | omega | (simp only [RowOk.lo, nx]; first | done | omega)))), ?_⟩; refine ⟨by omega, ?_, ?_⟩; all_goals (try (first | (simp (disch := first | decide | omega | (simp only [nx]; first | done | omega)) only [go_sem, Nat.reduceMul, w1]; first | done | rfl) | rfl)))
        intro j hj
        by_cases e : j = i
        · subst e; rw [List.getElem?_eq_getElem hlt, List.getElem?_eq_getElem hlt2, hx]
        · exact hsame j (by omega)
      · have b2 : (!decide (p[i] = q[i])) = true := by simp [hx]
        (simp (disch := first | decide | omega | (simp only [nx]; first | done | omega)) only [go_sem, Nat.reduceMul, q0, q1, q5, b1, b2]; (repeat (with_reducible refine And.intro (by first | omega | assumption | rfl) ?_)))
        refine ⟨?_, (by (repeat' first | assumption | exact St.Sub.refl _ | exact RowOk.sub (by assumption) (by assumption) | refine St.Sub.trans ?_ (RowOk.sub (by assumption) (by assumption)) | refine St.Sub.add ?_ ?_ _ | refine St.Sub.set ?_ ?_ ?_ _ | refine St.Sub.keep ?_ ?_ | refine St.WF.leave ?_ _ | refine St.WF.add ?_ _ | refine St.WF.set ?_ ?_ _ | refine St.WF.grow ?_ _ _ _ | refine St.WF.keep ?_ ?_ | (first | omega | (simp only [RowOk.lo, nx]; first | done | omega))))⟩
        rw [decide_eq_false]
        · rfl
        · intro e; subst e; exact hx rfl
    · have b1 : decide ((i : Int) < (p.length : Int)) = false := by simp; omega
      (simp (disch := first | decide | omega | (simp only [nx]; first | done | omega)) only [go_sem, Nat.reduceMul, q0, q1, q5, b1]; (repeat (with_reducible refine And.intro (by first | omega | assumption | rfl) ?_)))
      refine ⟨?_, (by (repeat' first | assumption | exact St.Sub.refl _ | exact RowOk.sub (by assumption) (by assumption) | refine St.Sub.trans ?_ (RowOk.sub (by assumption) (by assumption)) | refine St.Sub.add ?_ ?_ _ | refine St.Sub.set ?_ ?_ ?_ _ | refine St.Sub.keep ?_ ?_ | refine St.WF.leave ?_ _ | refine St.WF.add ?_ _ | refine St.WF.set ?_ ?_ _ | refine St.WF.grow ?_ _ _ _ | refine St.WF.keep ?_ ?_ | (first | omega | (simp only [RowOk.lo, nx]; first | done | omega))))⟩
      rw [decide_eq_true]
      · rfl
      · refine List.ext_getElem? fun j => ?_
        by_cases hj : j < i
        · exact hsame j hj
        · rw [List.getElem?_eq_none (by omega), List.getElem?_eq_none (by omega)]
  · have b0 : ((p.length : Int) != (q.length : Int)) = true := by simp; omega
    (simp (disch := first | decide | omega | (simp only [nx]; first | done | omega)) only [go_sem, Nat.reduceMul, b0]; (repeat (with_reducible refine And.intro (by first | omega | assumption | rfl) ?_)))
    refine ⟨?_, (by (repeat' first | assumption | exact St.Sub.refl _ | exact RowOk.sub (by assumption) (by assumption) | refine St.Sub.trans ?_ (RowOk.sub (by assumption) (by assumption)) | refine St.Sub.add ?_ ?_ _ | refine St.Sub.set ?_ ?_ ?_ _ | refine St.Sub.keep ?_ ?_ | refine St.WF.leave ?_ _ | refine St.WF.add ?_ _ | refine St.WF.set ?_ ?_ _ | refine St.WF.grow ?_ _ _ _ | refine St.WF.keep ?_ ?_ | (first | omega | (simp only [RowOk.lo, nx]; first | done | omega))))⟩
    rw [decide_eq_false]
    · rfl
    · intro e; subst e; exact hl rfl
theorem refSameV_d (a b : DVal) (hoa : okV a) (hob : okV b) : DPure Tryz.prog 16 [encV a, encV b] (.v (.bool (eqB a b))) :=
  dpure_of_gives (fun _ _ => by kernel_rfl) fun w η X vs hr => by
    simp only [RepL] at hr
    obtain ⟨x, xs, rfl, h1, y, ys, rfl, h2, rfl⟩ := hr
    obtain ⟨cs, rfl, hv⟩ := val_of_rep a.depth a (Nat.le_refl _) hoa h1
    obtain ⟨ds, rfl, hw⟩ := val_of_rep b.depth b (Nat.le_refl _) hob h2
    exact refValSame_calls a.depth a b cs ds w (Nat.le_refl _) hv hw
end Go.Proofs.YtjjhjhjphhpeiaaGreatDoor

namespace Go.Proofs.YtjjhjhjphhpeiaaGreatDoor
open Go.RowKit
set_option linter.unusedSimpArgs false
set_option linter.unusedVariables false
section
variable {P : Program} {t : TypeId} {x y : Operand}
theorem bin_or (k : IntKind) (a b : Int) : dbin P .or t x y (.v (.int k a)) (.v (.int k b)) = some (True, .v (.int k (bits .or k a b))) := by
  simp [dbin, eqGuard, binOp, intBits_or, pureRun_bind, pureRun_pure]
theorem bin_xor (k : IntKind) (a b : Int) : dbin P .xor t x y (.v (.int k a)) (.v (.int k b)) = some (True, .v (.int k (bits .xor k a b))) := by
  simp [dbin, eqGuard, binOp, intBits_xor, pureRun_bind, pureRun_pure]
theorem bin_andNot (k : IntKind) (a b : Int) : dbin P .andNot t x y (.v (.int k a)) (.v (.int k b)) = some (True, .v (.int k (bits .andNot k a b))) := by
  simp [dbin, eqGuard, binOp, intBits_andNot, pureRun_bind, pureRun_pure]
theorem bin_shr7 (a : Nat) : dbin P .shr t x y (.v (.int .u64 a)) (.v (.int .u64 7)) = some (True, .v (.int .u64 ((a / 128 : Nat) : Int))) := by
  simp [dbin, eqGuard, binOp, shift_shr .u64 .u64 (a : Int) 7 (by omega) (by decide), pureRun_bind, pureRun_pure]
theorem bin_shr63 (a : Int) : dbin P .shr t x y (.v (.int .i64 a)) (.v (.int .u64 63)) = some (True, .v (.int .i64 (a / 9223372036854775808))) := by
  simp [dbin, eqGuard, binOp, shift_shr .i64 .u64 a 63 (by omega) (by decide), pureRun_bind, pureRun_pure]
theorem bin_shl1 (a : Int) : dbin P .shl t x y (.v (.int .u64 a)) (.v (.int .u64 1)) = some (True, .v (.int .u64 (IntKind.u64.wrap (a * 2)))) := by
  simp [dbin, eqGuard, binOp, Op.shift, IntKind.bits, pureRun_bind, pureRun_pure]
end
theorem cv_u64u8 (n : Int) : pureRun Tryz.prog (convert 42 5 (.int .u64 n)) = some (.int .u8 (IntKind.u8.wrap n)) := by kernel_rfl
theorem cv_i64u64 (n : Int) : pureRun Tryz.prog (convert 3 42 (.int .i64 n)) = some (.int .u64 (IntKind.u64.wrap n)) := by kernel_rfl
theorem cv_u64i64 (n : Int) : pureRun Tryz.prog (convert 42 3 (.int .u64 n)) = some (.int .i64 (IntKind.i64.wrap n)) := by kernel_rfl
theorem cv_u8u64 (n : Int) : pureRun Tryz.prog (convert 5 42 (.int .u8 n)) = some (.int .u64 (IntKind.u64.wrap n)) := by kernel_rfl
theorem cv_i64u8 (n : Int) : pureRun Tryz.prog (convert 3 5 (.int .i64 n)) = some (.int .u8 (IntKind.u8.wrap n)) := by kernel_rfl
theorem u8T_u8 : u8T Tryz.prog 5 = true := by kernel_rfl
attribute [go_sem] u8T_u8
attribute [go_sem] bin_or bin_xor bin_andNot bin_shr7 bin_shr63 bin_shl1 cv_u64u8 cv_i64u64 cv_u64i64 cv_u8u64 cv_i64u8
end Go.Proofs.YtjjhjhjphhpeiaaGreatDoor

namespace Go.Proofs.YtjjhjhjphhpeiaaGreatDoor
open Go.RowKit
set_option linter.unusedSimpArgs false
set_option linter.unusedVariables false
section
variable {P : Program} {f : Fm} {S : St}
theorem pfin_ret3 (t u v : Tmp) (S' : St) (d : D) : DQ.pfin P [.tmp t, .tmp u, .tmp v] S d .ret f S' = PFin S S' (.tup [f t, f u, f v]) d := by
  simp [DQ.pfin, dresL, dres, onVal, one]
theorem pfin_normal3 (t u v : Tmp) (S' : St) (d : D) : DQ.pfin P [.tmp t, .tmp u, .tmp v] S d .normal f S' = PFin S S' (.tup [f t, f u, f v]) d := by
  simp [DQ.pfin, dresL, dres, onVal, one]
end
attribute [go_sem] pfin_ret3 pfin_normal3
end Go.Proofs.YtjjhjhjphhpeiaaGreatDoor

namespace Go.Proofs.YtjjhjhjphhpeiaaGreatDoor
open Go.RowKit
set_option linter.unusedSimpArgs false
set_option linter.unusedVariables false
section
variable {P : Program} {t : TypeId} {x : Operand}
theorem bin_nil_eql (c : Value) : dbin Tryz.prog .eql 35 x (.const c) (.v .nilIface) (.v .nilIface) = some (True, .v (.bool true)) := by cases x <;> kernel_rfl
theorem bin_nil_neq (c : Value) : dbin Tryz.prog .neq 35 x (.const c) (.v .nilIface) (.v .nilIface) = some (True, .v (.bool false)) := by cases x <;> kernel_rfl
end
attribute [go_sem] bin_nil_eql bin_nil_neq
/-- What a field leaves: the reader's variable, and the out variable b. -/
theorem set_ne {S : St} {a b : Nat} {o : Ob} (h : a ≠ b) : (S.set b o).ob a = S.ob a := by simp [St.set, h]
theorem set_eq {S : St} {b : Nat} {o : Ob} : (S.set b o).ob b = some o := by simp [St.set]
end Go.Proofs.YtjjhjhjphhpeiaaGreatDoor

namespace Go.Proofs.YtjjhjhjphhpeiaaGreatDoor
open Go.RowKit
set_option linter.unusedSimpArgs false
set_option linter.unusedVariables false
theorem name_d (s : Str) (hs : s.length ≤ maxLen) : DPure Tryz.prog 125 [.v (sv s)] (.v (.bool (nameB s))) :=
  dpure_of_gives (fun _ _ => by kernel_rfl) fun w η X vs hr => by
    simp only [RepL, Rep] at hr
    obtain ⟨x, xs, rfl, rfl, rfl⟩ := hr
    exact name_calls s w hs
theorem nameB_nil : nameB [] = false := by decide
def fineB (p : DStp) : Bool := (nameB p.1 && ((p.2 : Int) == 0)) || (p.1 == [] && !((p.2 : Int) == 0))
set_option maxRecDepth 200000 in
set_option maxHeartbeats 8000000 in
theorem fine_d (p : DStp) (hl : p.1.length ≤ maxLen) : DPure Tryz.prog 80 [encP p] (.v (.bool (fineB p))) := by
  refine dpure_of_dwp mixed Tryz.func80 rfl (fun _ _ => by kernel_rfl) (rs := [.tmp 2]) rfl (by kernel_rfl) trivial (fun S hS => ?_)
  by_cases h0 : p.1 = []
  · have b1 : (p.1 == []) = true := by simp [h0]
    (simp (disch := first | decide | omega | (simp only [nx]; first | done | omega)) only [go_sem, Nat.reduceMul, encP, b1]; (repeat (with_reducible refine And.intro (by first | omega | assumption | rfl) ?_)))
    refine ⟨?_, (by (repeat' first | assumption | exact St.Sub.refl _ | exact RowOk.sub (by assumption) (by assumption) | refine St.Sub.trans ?_ (RowOk.sub (by assumption) (by assumption)) | refine St.Sub.add ?_ ?_ _ | refine St.Sub.set ?_ ?_ ?_ _ | refine St.Sub.keep ?_ ?_ | refine St.WF.leave ?_ _ | refine St.WF.add ?_ _ | refine St.WF.set ?_ ?_ _ | refine St.WF.grow ?_ _ _ _ | refine St.WF.keep ?_ ?_ | (first | omega | (simp only [RowOk.lo, nx]; first | done | omega))))⟩
    rw [fineB, b1, h0, nameB_nil]; simp [D.frz, bne]
  · have b1 : (p.1 == []) = false := by simp [h0]
    cases b2 : ((p.2 : Int) == 0)
    · (simp (disch := first | decide | omega | (simp only [nx]; first | done | omega)) only [go_sem, Nat.reduceMul, encP, b1, b2]; (repeat (with_reducible refine And.intro (by first | omega | assumption | rfl) ?_)))
      refine ⟨?_, (by (repeat' first | assumption | exact St.Sub.refl _ | exact RowOk.sub (by assumption) (by assumption) | refine St.Sub.trans ?_ (RowOk.sub (by assumption) (by assumption)) | refine St.Sub.add ?_ ?_ _ | refine St.Sub.set ?_ ?_ ?_ _ | refine St.Sub.keep ?_ ?_ | refine St.WF.leave ?_ _ | refine St.WF.add ?_ _ | refine St.WF.set ?_ ?_ _ | refine St.WF.grow ?_ _ _ _ | refine St.WF.keep ?_ ?_ | (first | omega | (simp only [RowOk.lo, nx]; first | done | omega))))⟩
      rw [fineB, b1, b2]; simp [D.frz]
    · (simp (disch := first | decide | omega | (simp only [nx]; first | done | omega)) only [go_sem, Nat.reduceMul, encP, b1, b2]; (repeat (with_reducible refine And.intro (by first | omega | assumption | rfl) ?_)))
      refine DCalls.of_pure (name_d p.1 hl) ?_
      (simp (disch := first | decide | omega | (simp only [nx]; first | done | omega)) only [go_sem, Nat.reduceMul]; (repeat (with_reducible refine And.intro (by first | omega | assumption | rfl) ?_)))
      refine ⟨?_, (by (repeat' first | assumption | exact St.Sub.refl _ | exact RowOk.sub (by assumption) (by assumption) | refine St.Sub.trans ?_ (RowOk.sub (by assumption) (by assumption)) | refine St.Sub.add ?_ ?_ _ | refine St.Sub.set ?_ ?_ ?_ _ | refine St.Sub.keep ?_ ?_ | refine St.WF.leave ?_ _ | refine St.WF.add ?_ _ | refine St.WF.set ?_ ?_ _ | refine St.WF.grow ?_ _ _ _ | refine St.WF.keep ?_ ?_ | (first | omega | (simp only [RowOk.lo, nx]; first | done | omega))))⟩
      rw [fineB, b1, b2]; simp [D.frz]
set_option maxRecDepth 200000 in
set_option maxHeartbeats 8000000 in
theorem notFine_d (p : DStp) (hl : p.1.length ≤ maxLen) : DPure Tryz.prog 79 [encP p] (.v (.bool (!fineB p))) := by
  refine dpure_of_dwp mixed Tryz.func79 rfl (fun _ _ => by kernel_rfl) (rs := [.tmp 2]) rfl (by kernel_rfl) trivial (fun S hS => ?_)
  (simp (disch := first | decide | omega | (simp only [nx]; first | done | omega)) only [go_sem, Nat.reduceMul, encP]; (repeat (with_reducible refine And.intro (by first | omega | assumption | rfl) ?_)))
  refine DCalls.of_pure (fine_d p hl) ?_
  (simp (disch := first | decide | omega | (simp only [nx]; first | done | omega)) only [go_sem, Nat.reduceMul]; (repeat (with_reducible refine And.intro (by first | omega | assumption | rfl) ?_)))
  refine ⟨?_, (by (repeat' first | assumption | exact St.Sub.refl _ | exact RowOk.sub (by assumption) (by assumption) | refine St.Sub.trans ?_ (RowOk.sub (by assumption) (by assumption)) | refine St.Sub.add ?_ ?_ _ | refine St.Sub.set ?_ ?_ ?_ _ | refine St.Sub.keep ?_ ?_ | refine St.WF.leave ?_ _ | refine St.WF.add ?_ _ | refine St.WF.set ?_ ?_ _ | refine St.WF.grow ?_ _ _ _ | refine St.WF.keep ?_ ?_ | (first | omega | (simp only [RowOk.lo, nx]; first | done | omega))))⟩
  rfl
def ixF (l : List DStp) : Int := match l.findIdx? (fun p => !fineB p) with
  | some i => i
  | none => -1
set_option maxRecDepth 200000 in
set_option maxHeartbeats 8000000 in
theorem ixF_d (own : Own) (l : List DStp) (hl : l.length ≤ 1000000) (hs : ∀ p ∈ l, p.1.length ≤ maxLen) : DPure Tryz.prog 124 [.sl own (l.map encP), .fn (.func 79) [] []] (.v (.int .i64 (ixF l))) := by
  refine dpure_of_dwp mixed Tryz.func124 rfl (fun _ _ => by kernel_rfl) (rs := [.tmp 4]) rfl (by kernel_rfl) trivial (fun S hS => ?_)
  (simp (disch := first | decide | omega | (simp only [nx]; first | done | omega)) only [go_sem, Nat.reduceMul]; (repeat (with_reducible refine And.intro (by first | omega | assumption | rfl) ?_)))
  (refine dloop_st (fun t => List.contains [4, 5, 8, 9, 10, 11, 12, 13, 14, 15, 16, 17, 18] t) (by kernel_rfl) ?_ (l.length) (fun i f => i ≤ l.length ∧ f 8 = .v (.int .i64 (i : Nat)) ∧ (∀ j (hj : j < l.length), j < i → fineB l[j] = true)) ?_ ?_; (exact (by (repeat' first | assumption | refine St.WF.leave ?_ _ | refine St.WF.add ?_ _ | refine St.WF.set ?_ ?_ _ | refine St.WF.grow ?_ _ _ _ | refine St.WF.keep ?_ ?_ | (first | omega | (simp only [RowOk.lo, nx]; first | done | omega))))); (exact ⟨(by omega), (by (first | (simp (disch := first | decide | omega | (simp only [nx]; first | done | omega)) only [go_sem, Nat.reduceMul]; first | done | rfl) | rfl)), (fun j _ hj => by omega)⟩); intro i g tn hn hT hg hI; obtain ⟨le, q8, hno⟩ := hI; have q0 := hg 0 rfl; have q1 := hg 1 rfl; have q7 := hg 7 rfl; simp (disch := first | decide | omega | (simp only [nx]; first | done | omega)) only [go_sem, Nat.reduceMul] at q0 q1 q7; clear hg; have hn' := hn; try simp only [add_next, set_next, grow_next, leave_next, drop_next] at hn')
  by_cases hlt : i < l.length
  · have b1 : decide ((i : Int) < (l.length : Int)) = true := by simp; omega
    have w1 : IntKind.i64.wrap ((i : Int) + 1) = ((i + 1 : Nat) : Int) := IntWalk.i64_in _ ⟨by omega, by omega⟩
    (simp (disch := first | decide | omega | (simp only [nx]; first | done | omega)) only [go_sem, Nat.reduceMul, q0, q1, q7, q8, b1]; (repeat (with_reducible refine And.intro (by first | omega | assumption | rfl) ?_)))
    refine DCalls.of_pure (notFine_d l[i] (hs _ (List.getElem_mem hlt))) ?_
    cases hf : fineB l[i]
    · (simp (disch := first | decide | omega | (simp only [nx]; first | done | omega)) only [go_sem, Nat.reduceMul, q0, q1, q7, q8, b1]; (repeat (with_reducible refine And.intro (by first | omega | assumption | rfl) ?_)))
      refine ⟨?_, (by (repeat' first | assumption | exact St.Sub.refl _ | exact RowOk.sub (by assumption) (by assumption) | refine St.Sub.trans ?_ (RowOk.sub (by assumption) (by assumption)) | refine St.Sub.add ?_ ?_ _ | refine St.Sub.set ?_ ?_ ?_ _ | refine St.Sub.keep ?_ ?_ | refine St.WF.leave ?_ _ | refine St.WF.add ?_ _ | refine St.WF.set ?_ ?_ _ | refine St.WF.grow ?_ _ _ _ | refine St.WF.keep ?_ ?_ | (first | omega | (simp only [RowOk.lo, nx]; first | done | omega))))⟩
      have h1 : l.findIdx? (fun p => !fineB p) = some i := List.findIdx?_eq_some_iff_getElem.2 ⟨hlt, by simp [hf], fun j hj => by simp [hno j (by omega) hj]⟩
      rw [ixF, h1]; rfl
    · (simp (disch := first | decide | omega | (simp only [nx]; first | done | omega)) only [go_sem, Nat.reduceMul, q0, q1, q7, q8, b1, w1]; (repeat (with_reducible refine And.intro (by first | omega | assumption | rfl) ?_)))
      (refine ⟨by omega, (by (repeat' first | assumption | exact St.Sub.refl _ | exact RowOk.sub (by assumption) (by assumption) | refine St.Sub.trans ?_ (RowOk.sub (by assumption) (by assumption)) | refine St.Sub.add ?_ ?_ _ | refine St.Sub.set ?_ ?_ ?_ _ | refine St.Sub.keep ?_ ?_ | refine St.WF.leave ?_ _ | refine St.WF.add ?_ _ | refine St.WF.set ?_ ?_ _ | refine St.WF.grow ?_ _ _ _ | refine St.WF.keep ?_ ?_ | (first | omega | (simp only [RowOk.lo, nx]; first | done | omega)))), ?_⟩; refine ⟨by omega, ?_, ?_⟩; all_goals (try (first | (simp (disch := first | decide | omega | (simp only [nx]; first | done | omega)) only [go_sem, Nat.reduceMul, w1]; first | done | rfl) | rfl)))
      intro j hj hji
      by_cases e : j = i
      · subst e; exact hf
      · exact hno j hj (by omega)
  · have b1 : decide ((i : Int) < (l.length : Int)) = false := by simp; omega
    (simp (disch := first | decide | omega | (simp only [nx]; first | done | omega)) only [go_sem, Nat.reduceMul, q0, q1, q7, q8, b1]; (repeat (with_reducible refine And.intro (by first | omega | assumption | rfl) ?_)))
    refine ⟨?_, (by (repeat' first | assumption | exact St.Sub.refl _ | exact RowOk.sub (by assumption) (by assumption) | refine St.Sub.trans ?_ (RowOk.sub (by assumption) (by assumption)) | refine St.Sub.add ?_ ?_ _ | refine St.Sub.set ?_ ?_ ?_ _ | refine St.Sub.keep ?_ ?_ | refine St.WF.leave ?_ _ | refine St.WF.add ?_ _ | refine St.WF.set ?_ ?_ _ | refine St.WF.grow ?_ _ _ _ | refine St.WF.keep ?_ ?_ | (first | omega | (simp only [RowOk.lo, nx]; first | done | omega))))⟩
    have h1 : l.findIdx? (fun p => !fineB p) = none := List.findIdx?_eq_none_iff.2 fun x hx => by
      obtain ⟨j, hj, rfl⟩ := List.getElem_of_mem hx
      simp [hno j hj (by omega)]
    rw [ixF, h1]; rfl
def rightP (l : List DStp) : Bool := decide (l.length ≤ 8) && l.all fineB
set_option maxRecDepth 200000 in
set_option maxHeartbeats 8000000 in
theorem refRight_d (own : Own) (l : List DStp) (hl : l.length ≤ 1000000) (hs : ∀ p ∈ l, p.1.length ≤ maxLen) : DPure Tryz.prog 49 [.sl own (l.map encP)] (.v (.bool (rightP l))) := by
  refine dpure_of_dwp mixed Tryz.func49 rfl (fun _ _ => by kernel_rfl) (rs := [.tmp 2]) rfl (by kernel_rfl) trivial (fun S hS => ?_)
  (simp (disch := first | decide | omega | (simp only [nx]; first | done | omega)) only [go_sem, Nat.reduceMul]; (repeat (with_reducible refine And.intro (by first | omega | assumption | rfl) ?_)))
  (refine dloop_st (fun t => List.contains [2, 3, 4, 5, 6, 7, 8, 9, 10, 11, 12, 13, 14, 15, 16, 17, 18, 19, 20, 21, 22, 23, 24, 25, 26, 27, 28, 29, 30, 31, 32, 33, 34, 35, 36, 37, 38, 39, 40, 41, 42, 43, 44, 45] t) (by kernel_rfl) ?_ (l.length) (fun i f => i ≤ l.length ∧ f 3 = .v (.int .i64 (i : Nat)) ∧ (∀ j (hj : j < l.length), j < i → fineB l[j] = true)) ?_ ?_; (exact (by (repeat' first | assumption | refine St.WF.leave ?_ _ | refine St.WF.add ?_ _ | refine St.WF.set ?_ ?_ _ | refine St.WF.grow ?_ _ _ _ | refine St.WF.keep ?_ ?_ | (first | omega | (simp only [RowOk.lo, nx]; first | done | omega))))); (exact ⟨(by omega), (by (first | (simp (disch := first | decide | omega | (simp only [nx]; first | done | omega)) only [go_sem, Nat.reduceMul]; first | done | rfl) | rfl)), (fun j _ hj => by omega)⟩); intro i g tn hn hT hg hI; obtain ⟨le, q3, hno⟩ := hI; have q0 := hg 0 rfl; simp (disch := first | decide | omega | (simp only [nx]; first | done | omega)) only [go_sem, Nat.reduceMul] at q0; clear hg; have hn' := hn; try simp only [add_next, set_next, grow_next, leave_next, drop_next] at hn')
  by_cases hlt : i < l.length
  · have b1 : decide ((i : Int) < (l.length : Int)) = true := by simp; omega
    have w1 : IntKind.i64.wrap ((i : Int) + 1) = ((i + 1 : Nat) : Int) := IntWalk.i64_in _ ⟨by omega, by omega⟩
    (simp (disch := first | decide | omega | (simp only [nx]; first | done | omega)) only [go_sem, Nat.reduceMul, q0, q3, b1, encP]; (repeat (with_reducible refine And.intro (by first | omega | assumption | rfl) ?_)))
    refine DCalls.of_pure (refName_d l[i].1 (hs _ (List.getElem_mem hlt))) ?_
    cases hn : nameB l[i].1 <;> cases hz : ((l[i].2 : Int) == 0) <;> cases he : (l[i].1 == [])
    all_goals have hz' : ((l[i].2 : Int) != 0) = !((l[i].2 : Int) == 0) := rfl
    all_goals rw [hz] at hz'
    all_goals have hf : fineB l[i] = ((nameB l[i].1 && ((l[i].2 : Int) == 0)) || (l[i].1 == [] && !((l[i].2 : Int) == 0))) := rfl
    all_goals rw [hn, hz, he] at hf
    all_goals (simp (disch := first | decide | omega | (simp only [nx]; first | done | omega)) only [go_sem, Nat.reduceMul, q0, q3, b1, encP, hz, hz', he, w1]; (repeat (with_reducible refine And.intro (by first | omega | assumption | rfl) ?_)))
    all_goals first
      | (refine ⟨?_, (by (repeat' first | assumption | exact St.Sub.refl _ | exact RowOk.sub (by assumption) (by assumption) | refine St.Sub.trans ?_ (RowOk.sub (by assumption) (by assumption)) | refine St.Sub.add ?_ ?_ _ | refine St.Sub.set ?_ ?_ ?_ _ | refine St.Sub.keep ?_ ?_ | refine St.WF.leave ?_ _ | refine St.WF.add ?_ _ | refine St.WF.set ?_ ?_ _ | refine St.WF.grow ?_ _ _ _ | refine St.WF.keep ?_ ?_ | (first | omega | (simp only [RowOk.lo, nx]; first | done | omega))))⟩; have h0 : l.all fineB = false := List.all_eq_false.2 ⟨l[i], List.getElem_mem hlt, by rw [hf]; decide⟩; rw [rightP, h0, Bool.and_false]; rfl)
      | ((refine ⟨by omega, (by (repeat' first | assumption | exact St.Sub.refl _ | exact RowOk.sub (by assumption) (by assumption) | refine St.Sub.trans ?_ (RowOk.sub (by assumption) (by assumption)) | refine St.Sub.add ?_ ?_ _ | refine St.Sub.set ?_ ?_ ?_ _ | refine St.Sub.keep ?_ ?_ | refine St.WF.leave ?_ _ | refine St.WF.add ?_ _ | refine St.WF.set ?_ ?_ _ | refine St.WF.grow ?_ _ _ _ | refine St.WF.keep ?_ ?_ | (first | omega | (simp only [RowOk.lo, nx]; first | done | omega)))), ?_⟩; refine ⟨by omega, ?_, ?_⟩; all_goals (try (first | (simp (disch := first | decide | omega | (simp only [nx]; first | done | omega)) only [go_sem, Nat.reduceMul, w1]; first | done | rfl) | rfl))); intro j hj hji; by_cases e : j = i; (subst e; exact hf); exact hno j hj (by omega))
  · have b1 : decide ((i : Int) < (l.length : Int)) = false := by simp; omega
    (simp (disch := first | decide | omega | (simp only [nx]; first | done | omega)) only [go_sem, Nat.reduceMul, q0, q3, b1]; (repeat (with_reducible refine And.intro (by first | omega | assumption | rfl) ?_)))
    refine ⟨?_, (by (repeat' first | assumption | exact St.Sub.refl _ | exact RowOk.sub (by assumption) (by assumption) | refine St.Sub.trans ?_ (RowOk.sub (by assumption) (by assumption)) | refine St.Sub.add ?_ ?_ _ | refine St.Sub.set ?_ ?_ ?_ _ | refine St.Sub.keep ?_ ?_ | refine St.WF.leave ?_ _ | refine St.WF.add ?_ _ | refine St.WF.set ?_ ?_ _ | refine St.WF.grow ?_ _ _ _ | refine St.WF.keep ?_ ?_ | (first | omega | (simp only [RowOk.lo, nx]; first | done | omega))))⟩
    have : l.all fineB = true := List.all_eq_true.2 fun x hx => by
      obtain ⟨j, hj, rfl⟩ := List.getElem_of_mem hx
      exact hno j hj (by omega)
    have h8 : decide ((l.length : Int) ≤ 8) = decide (l.length ≤ 8) := by rw [decide_eq_decide]; omega
    rw [rightP, this, Bool.and_true, ← h8]; rfl
end Go.Proofs.YtjjhjhjphhpeiaaGreatDoor

namespace Go.Proofs.YtjjhjhjphhpeiaaGreatDoor
open Go.RowKit
theorem rise_lt {l : List Str} (h : ∀ i, i < l.length → riseOk l i = true) : ∀ (d i : Nat), i + d + 1 < l.length → sLt (l.getD i []) (l.getD (i + d + 1) []) = true
  | 0, i, hi => by
    have := h (i + 1) hi
    simp only [riseOk, Bool.and_eq_true, Bool.or_eq_true, decide_eq_true_eq, Nat.add_sub_cancel] at this
    rcases this.2 with h1 | h1
    · omega
    · exact h1
  | d + 1, i, hi => by
    have h1 := rise_lt h d i (by omega)
    have := h (i + (d + 1) + 1) hi
    simp only [riseOk, Bool.and_eq_true, Bool.or_eq_true, decide_eq_true_eq, Nat.add_sub_cancel] at this
    rcases this.2 with h2 | h2
    · omega
    · exact sLt_trans h1 h2
theorem rise_first {l : List Str} (h : ∀ i, i < l.length → riseOk l i = true) {i : Nat} (hi : i < l.length) : ixN l l[i] = i := idx_of_first hi fun j hj => by
  have h1 := rise_lt h (i - j - 1) j (by omega)
  rw [show j + (i - j - 1) + 1 = i by omega, getD_at (by omega), getD_at hi] at h1
  intro e
  rw [e, sLt_irrefl] at h1
  cases h1
theorem ids_first {l : List Nat} (h : ∀ i, i < l.length → idOk l i = true) {i : Nat} (hi : i < l.length) : ixN l l[i] = i := idx_of_first hi fun j hj e => by
  have h1 := h i hi
  simp only [idOk, Bool.and_eq_true, Bool.not_eq_true', decide_eq_false_iff_not] at h1
  apply h1.2
  rw [getD_at hi, ← e]
  rw [List.mem_take_iff_getElem]
  exact ⟨j, by omega, rfl⟩
/-- The place of the step to part i is i. -/
theorem place_step {v : DVal} (hv : RV v) {i : Nat} (hi : i < v.parts.length) : placeOf v (stepV v i) = (i : Int) := by
  have hst := hv.steps hi
  have hh := hv.here
  obtain ⟨m, h1, h2⟩ := hv
  obtain ⟨m, rfl⟩ : ∃ n, m = n + 1 := ⟨m - 1, by have := v.depth_pos; omega⟩
  rw [soundV, Bool.and_eq_true, hereV, Bool.and_eq_true, Bool.and_eq_true, Bool.and_eq_true, List.all_eq_true, List.all_eq_true] at h2
  have hr := fun i (hi : i < v.names.length) => h2.1.2.1 i (List.mem_range.2 hi)
  have hd := fun i (hi : i < v.ids.length) => h2.1.2.2 i (List.mem_range.2 hi)
  unfold placeOf stepV
  by_cases h5 : v.kind = 5
  · have hn := hst.1 h5
    have hne : v.names[i] ≠ [] := by
      have := hr i hn
      simp only [riseOk, nameB, Bool.and_eq_true, decide_eq_true_eq] at this
      have h3 := this.1.2.1
      rw [getD_at hn] at h3
      intro e; rw [e] at h3; simp at h3
    rw [if_pos h5, getD_at hn, if_neg hne, if_pos]
    · rw [rise_first hr hn]
    · refine ⟨?_, List.getElem_mem hn⟩
      have h6 : v.ids.length = 0 := hh.2.1 (by omega)
      simp only [wholeB, h5, decide_true, Bool.true_and, decide_eq_true_eq]
      omega
  · have hn := hst.2 h5
    have h6 : v.kind = 6 := by
      by_cases h6 : v.kind = 6
      · exact h6
      · have := hh.2.1 h6; omega
    rw [if_neg h5, getD_at hn, if_pos rfl, if_pos ⟨h6, List.getElem_mem hn⟩, ids_first hd hn]
end Go.Proofs.YtjjhjhjphhpeiaaGreatDoor

namespace Go.Proofs.YtjjhjhjphhpeiaaGreatDoor
open Go.RowKit
set_option linter.unusedSimpArgs false
attribute [go_sem] sv_beq
def zeroS : DSch := .mk 0 [] []
theorem schCopy_d (s : DSch) (hok : okS s) (hw : s.weight ≤ 1000000) : DPure Tryz.prog 86 [encS s] (encS s) := fun S _ η w vs hM hr => by
  obtain ⟨cs, rfl, hv⟩ := arg_sch hok hr
  exact .inl ⟨by kernel_rfl, (schCopy_calls s.depth s cs w (Nat.le_refl _) hw hv).mono fun _ w' ⟨cs, he, hv, hb⟩ => ⟨encS s, _, η, .agg cs.toArray, ⟨rfl, rfl⟩, he, rep_sch (F := fun b => w.heap.size ≤ b ∧ b < w'.heap.size) (fun b i hF k o h1 _ => by have := (hM.in_ k b h1).2; omega) hv, goes_below hM hb⟩⟩
def wholeS (s : DSch) : Bool := decide (s.kind = 5) && decide (s.words.length ≤ s.parts.length)
set_option maxRecDepth 200000 in
set_option maxHeartbeats 4000000 in
theorem wholeS_d (s : DSch) : DPure Tryz.prog 130 [encS s] (.v (.bool (wholeS s))) := by
  refine dpure_of_dwp mixed Tryz.func130 rfl (fun _ _ => by kernel_rfl) (rs := [.tmp 2]) rfl (by kernel_rfl) trivial (fun S hS => ?_)
  by_cases h5 : s.kind = 5
  · have b5 : (s.kind == 5) = true := by simp [h5]
    (simp (disch := first | decide | omega | (simp only [nx]; first | done | omega)) only [go_sem, Nat.reduceMul, encS_eq s, b5]; (repeat (with_reducible refine And.intro (by first | omega | assumption | rfl) ?_)))
    refine ⟨?_, (by (repeat' first | assumption | exact St.Sub.refl _ | exact RowOk.sub (by assumption) (by assumption) | refine St.Sub.trans ?_ (RowOk.sub (by assumption) (by assumption)) | refine St.Sub.add ?_ ?_ _ | refine St.Sub.set ?_ ?_ ?_ _ | refine St.Sub.keep ?_ ?_ | refine St.WF.leave ?_ _ | refine St.WF.add ?_ _ | refine St.WF.set ?_ ?_ _ | refine St.WF.grow ?_ _ _ _ | refine St.WF.keep ?_ ?_ | (first | omega | (simp only [RowOk.lo, nx]; first | done | omega))))⟩
    simp only [D.frz, wholeS, decide_eq_true h5, Bool.true_and]
    congr 3
    exact propext ⟨fun h => by omega, fun h => by omega⟩
  · have b5 : (s.kind == 5) = false := by simp [h5]
    (simp (disch := first | decide | omega | (simp only [nx]; first | done | omega)) only [go_sem, Nat.reduceMul, encS_eq s, b5]; (repeat (with_reducible refine And.intro (by first | omega | assumption | rfl) ?_)))
    refine ⟨?_, (by (repeat' first | assumption | exact St.Sub.refl _ | exact RowOk.sub (by assumption) (by assumption) | refine St.Sub.trans ?_ (RowOk.sub (by assumption) (by assumption)) | refine St.Sub.add ?_ ?_ _ | refine St.Sub.set ?_ ?_ ?_ _ | refine St.Sub.keep ?_ ?_ | refine St.WF.leave ?_ _ | refine St.WF.add ?_ _ | refine St.WF.set ?_ ?_ _ | refine St.WF.grow ?_ _ _ _ | refine St.WF.keep ?_ ?_ | (first | omega | (simp only [RowOk.lo, nx]; first | done | omega))))⟩
    simp only [D.frz, wholeS, decide_eq_false h5, Bool.false_and]
set_option maxRecDepth 200000 in
set_option maxHeartbeats 4000000 in
theorem refWholeS_d (s : DSch) : DPure Tryz.prog 117 [encS s] (.v (.bool (wholeS s))) := by
  refine dpure_of_dwp mixed Tryz.func117 rfl (fun _ _ => by kernel_rfl) (rs := [.tmp 2]) rfl (by kernel_rfl) trivial (fun S hS => ?_)
  by_cases h5 : s.kind = 5
  · have b5 : (s.kind == 5) = true := by simp [h5]
    (simp (disch := first | decide | omega | (simp only [nx]; first | done | omega)) only [go_sem, Nat.reduceMul, encS_eq s, b5]; (repeat (with_reducible refine And.intro (by first | omega | assumption | rfl) ?_)))
    refine ⟨?_, (by (repeat' first | assumption | exact St.Sub.refl _ | exact RowOk.sub (by assumption) (by assumption) | refine St.Sub.trans ?_ (RowOk.sub (by assumption) (by assumption)) | refine St.Sub.add ?_ ?_ _ | refine St.Sub.set ?_ ?_ ?_ _ | refine St.Sub.keep ?_ ?_ | refine St.WF.leave ?_ _ | refine St.WF.add ?_ _ | refine St.WF.set ?_ ?_ _ | refine St.WF.grow ?_ _ _ _ | refine St.WF.keep ?_ ?_ | (first | omega | (simp only [RowOk.lo, nx]; first | done | omega))))⟩
    simp only [D.frz, wholeS, decide_eq_true h5, Bool.true_and]
    congr 3
    exact propext ⟨fun h => by omega, fun h => by omega⟩
  · have b5 : (s.kind == 5) = false := by simp [h5]
    (simp (disch := first | decide | omega | (simp only [nx]; first | done | omega)) only [go_sem, Nat.reduceMul, encS_eq s, b5]; (repeat (with_reducible refine And.intro (by first | omega | assumption | rfl) ?_)))
    refine ⟨?_, (by (repeat' first | assumption | exact St.Sub.refl _ | exact RowOk.sub (by assumption) (by assumption) | refine St.Sub.trans ?_ (RowOk.sub (by assumption) (by assumption)) | refine St.Sub.add ?_ ?_ _ | refine St.Sub.set ?_ ?_ ?_ _ | refine St.Sub.keep ?_ ?_ | refine St.WF.leave ?_ _ | refine St.WF.add ?_ _ | refine St.WF.set ?_ ?_ _ | refine St.WF.grow ?_ _ _ _ | refine St.WF.keep ?_ ?_ | (first | omega | (simp only [RowOk.lo, nx]; first | done | omega))))⟩
    simp only [D.frz, wholeS, decide_eq_false h5, Bool.false_and]
set_option maxRecDepth 200000 in
set_option maxHeartbeats 4000000 in
theorem refAt_d (s : DSch) (x : Str) (hw : s.weight ≤ 1000000) : DPure Tryz.prog 116 [encS s, .v (sv x)] (.v (.int .i64 (ixI s.words x))) := by
  have hww := s.words_weight
  refine dpure_of_dwp mixed Tryz.func116 rfl (fun _ _ => by kernel_rfl) (rs := [.tmp 4]) rfl (by kernel_rfl) trivial (fun S hS => ?_)
  (simp (disch := first | decide | omega | (simp only [nx]; first | done | omega)) only [go_sem, Nat.reduceMul, encS_eq s]; (repeat (with_reducible refine And.intro (by first | omega | assumption | rfl) ?_)))
  (refine dloop_st (fun t => List.contains [4, 5, 6, 7, 8, 9, 10, 11, 12, 13, 14, 15, 16, 17, 18, 19, 20] t) (by kernel_rfl) ?_ (s.words.length) (fun i f => i ≤ s.words.length ∧ f 5 = .v (.int .i64 (i : Nat)) ∧ (∀ j (hj : j < s.words.length), j < i → s.words[j] ≠ x)) ?_ ?_; (exact (by (repeat' first | assumption | refine St.WF.leave ?_ _ | refine St.WF.add ?_ _ | refine St.WF.set ?_ ?_ _ | refine St.WF.grow ?_ _ _ _ | refine St.WF.keep ?_ ?_ | (first | omega | (simp only [RowOk.lo, nx]; first | done | omega))))); (exact ⟨(by omega), (by (first | (simp (disch := first | decide | omega | (simp only [nx]; first | done | omega)) only [go_sem, Nat.reduceMul]; first | done | rfl) | rfl)), (fun j _ hj => by omega)⟩); intro i g tn hn hT hg hI; obtain ⟨le, q5, hno⟩ := hI; have q1 := hg 1 rfl; have q2 := hg 2 rfl; simp (disch := first | decide | omega | (simp only [nx]; first | done | omega)) only [go_sem, Nat.reduceMul] at q1 q2; clear hg; have hn' := hn; try simp only [add_next, set_next, grow_next, leave_next, drop_next] at hn')
  by_cases hlt : i < s.words.length
  · have b1 : decide ((i : Int) < (s.words.length : Int)) = true := by simp; omega
    have w1 : IntKind.i64.wrap ((i : Int) + 1) = ((i + 1 : Nat) : Int) := IntWalk.i64_in _ ⟨by omega, by omega⟩
    by_cases hx : s.words[i] = x
    · have b2 : (s.words[i] == x) = true := by simp [hx]
      (simp (disch := first | decide | omega | (simp only [nx]; first | done | omega)) only [go_sem, Nat.reduceMul, q1, q2, q5, b1, b2]; (repeat (with_reducible refine And.intro (by first | omega | assumption | rfl) ?_)))
      refine ⟨?_, (by (repeat' first | assumption | exact St.Sub.refl _ | exact RowOk.sub (by assumption) (by assumption) | refine St.Sub.trans ?_ (RowOk.sub (by assumption) (by assumption)) | refine St.Sub.add ?_ ?_ _ | refine St.Sub.set ?_ ?_ ?_ _ | refine St.Sub.keep ?_ ?_ | refine St.WF.leave ?_ _ | refine St.WF.add ?_ _ | refine St.WF.set ?_ ?_ _ | refine St.WF.grow ?_ _ _ _ | refine St.WF.keep ?_ ?_ | (first | omega | (simp only [RowOk.lo, nx]; first | done | omega))))⟩
      rw [ixI_first hlt hx fun j hj => hno j (by omega) hj]
      rfl
    · have b2 : (s.words[i] == x) = false := by simp [hx]
      (simp (disch := first | decide | omega | (simp only [nx]; first | done | omega)) only [go_sem, Nat.reduceMul, q1, q2, q5, b1, b2, w1]; (repeat (with_reducible refine And.intro (by first | omega | assumption | rfl) ?_)))
      (refine ⟨by omega, (by (repeat' first | assumption | exact St.Sub.refl _ | exact RowOk.sub (by assumption) (by assumption) | refine St.Sub.trans ?_ (RowOk.sub (by assumption) (by assumption)) | refine St.Sub.add ?_ ?_ _ | refine St.Sub.set ?_ ?_ ?_ _ | refine St.Sub.keep ?_ ?_ | refine St.WF.leave ?_ _ | refine St.WF.add ?_ _ | refine St.WF.set ?_ ?_ _ | refine St.WF.grow ?_ _ _ _ | refine St.WF.keep ?_ ?_ | (first | omega | (simp only [RowOk.lo, nx]; first | done | omega)))), ?_⟩; refine ⟨by omega, ?_, ?_⟩; all_goals (try (first | (simp (disch := first | decide | omega | (simp only [nx]; first | done | omega)) only [go_sem, Nat.reduceMul, w1]; first | done | rfl) | rfl)))
      intro j hj hji
      by_cases e : j = i
      · subst e; exact hx
      · exact hno j hj (by omega)
  · have b1 : decide ((i : Int) < (s.words.length : Int)) = false := by simp; omega
    (simp (disch := first | decide | omega | (simp only [nx]; first | done | omega)) only [go_sem, Nat.reduceMul, q1, q2, q5, b1]; (repeat (with_reducible refine And.intro (by first | omega | assumption | rfl) ?_)))
    refine ⟨?_, (by (repeat' first | assumption | exact St.Sub.refl _ | exact RowOk.sub (by assumption) (by assumption) | refine St.Sub.trans ?_ (RowOk.sub (by assumption) (by assumption)) | refine St.Sub.add ?_ ?_ _ | refine St.Sub.set ?_ ?_ ?_ _ | refine St.Sub.keep ?_ ?_ | refine St.WF.leave ?_ _ | refine St.WF.add ?_ _ | refine St.WF.set ?_ ?_ _ | refine St.WF.grow ?_ _ _ _ | refine St.WF.keep ?_ ?_ | (first | omega | (simp only [RowOk.lo, nx]; first | done | omega))))⟩
    rw [ixI_none fun j hj => hno j hj (by omega)]
    rfl
def fieldS (s : DSch) (x : Str) : Option DSch := if wholeS s = true ∧ x ∈ s.words then some (s.parts.getD (ixN s.words x) default) else none
def tupS (o : Option DSch) : D := .tup [encS (o.getD zeroS), .v (.bool o.isSome)]
theorem tupS_closed (o : Option DSch) : (tupS o).closed := by
  simp only [tupS, D.closed, D.all, allL, and_true]; exact closed_encS _
theorem frz_tupS (s : DSch) (b : Bool) : (D.tup [encS s, .v (.bool b)]).frz = .tup [encS s, .v (.bool b)] := by simp only [D.frz, frzL, frz_encS]
theorem fieldS_cases {s : DSch} {x : Str} (h : wholeS s = true) (hm : x ∈ s.words) : ∃ hpl : ixN s.words x < s.parts.length, fieldS s x = some s.parts[ixN s.words x] := by
  have h1 := ix_lt hm
  have hpl : ixN s.words x < s.parts.length := by
    simp only [wholeS, Bool.and_eq_true, decide_eq_true_eq] at h
    omega
  exact ⟨hpl, by rw [fieldS, if_pos ⟨h, hm⟩, getD_at hpl]⟩
set_option maxRecDepth 200000 in
set_option maxHeartbeats 4000000 in
theorem fieldS_d (s : DSch) (x : Str) (hok : okS s) (hw : s.weight ≤ 1000000) : DPure Tryz.prog 85 [encS s, .v (sv x)] (tupS (fieldS s x)) := by
  obtain ⟨o1, o2, o3, o4, o5⟩ := (okS_eq s).1 hok
  refine dpure_of_dwp mixed Tryz.func85 rfl (fun _ _ => by kernel_rfl) (rs := [.cell 4 25, .tmp 5]) rfl (by kernel_rfl) (tupS_closed _) (fun S hS => ?_)
  have ec := encS_eq s
  (simp (disch := first | decide | omega | (simp only [nx]; first | done | omega)) only [go_sem, Nat.reduceMul]; (repeat (with_reducible refine And.intro (by first | omega | assumption | rfl) ?_)))
  refine DCalls.of_pure (strIndex_d .no s.words x o3) ?_
  (simp (disch := first | decide | omega | (simp only [nx]; first | done | omega)) only [go_sem, Nat.reduceMul]; (repeat (with_reducible refine And.intro (by first | omega | assumption | rfl) ?_)))
  refine DCalls.of_pure (wholeS_d s) ?_
  cases hwb : wholeS s with
  | true =>
    by_cases hm : x ∈ s.words
    · have b7 : decide (ixI s.words x < 0) = false := by unfold ixI; rw [if_pos hm]; simp
      obtain ⟨hpl, hf⟩ := fieldS_cases hwb hm
      have hi : ixI s.words x = (ixN s.words x : Int) := by unfold ixI; rw [if_pos hm]
      have b8 : decide ((ixN s.words x : Int) < 0) = false := by simp
      (simp (disch := first | decide | omega | (simp only [nx]; first | done | omega)) only [go_sem, Nat.reduceMul, hi, b8]; (repeat (with_reducible refine And.intro (by first | omega | assumption | rfl) ?_)))
      refine DCalls.of_pure (schCopy_d s.parts[ixN s.words x] (o5 _ (List.getElem_mem hpl)) (by have := DSch.weight_part (List.getElem_mem hpl); omega)) ?_
      (simp (disch := first | decide | omega | (simp only [nx]; first | done | omega)) only [go_sem, Nat.reduceMul]; (repeat (with_reducible refine And.intro (by first | omega | assumption | rfl) ?_)))
      refine ⟨?_, (by (repeat' first | assumption | exact St.Sub.refl _ | exact RowOk.sub (by assumption) (by assumption) | refine St.Sub.trans ?_ (RowOk.sub (by assumption) (by assumption)) | refine St.Sub.add ?_ ?_ _ | refine St.Sub.set ?_ ?_ ?_ _ | refine St.Sub.keep ?_ ?_ | refine St.WF.leave ?_ _ | refine St.WF.add ?_ _ | refine St.WF.set ?_ ?_ _ | refine St.WF.grow ?_ _ _ _ | refine St.WF.keep ?_ ?_ | (first | omega | (simp only [RowOk.lo, nx]; first | done | omega))))⟩
      rw [frz_tupS, hf]
      rfl
    · have b7 : decide (ixI s.words x < 0) = true := by unfold ixI; rw [if_neg hm]; decide
      (simp (disch := first | decide | omega | (simp only [nx]; first | done | omega)) only [go_sem, Nat.reduceMul, b7]; (repeat (with_reducible refine And.intro (by first | omega | assumption | rfl) ?_)))
      refine ⟨?_, (by (repeat' first | assumption | exact St.Sub.refl _ | exact RowOk.sub (by assumption) (by assumption) | refine St.Sub.trans ?_ (RowOk.sub (by assumption) (by assumption)) | refine St.Sub.add ?_ ?_ _ | refine St.Sub.set ?_ ?_ ?_ _ | refine St.Sub.keep ?_ ?_ | refine St.WF.leave ?_ _ | refine St.WF.add ?_ _ | refine St.WF.set ?_ ?_ _ | refine St.WF.grow ?_ _ _ _ | refine St.WF.keep ?_ ?_ | (first | omega | (simp only [RowOk.lo, nx]; first | done | omega))))⟩
      rw [fieldS, if_neg (fun h => hm h.2)]
      rfl
  | false =>
    (simp (disch := first | decide | omega | (simp only [nx]; first | done | omega)) only [go_sem, Nat.reduceMul]; (repeat (with_reducible refine And.intro (by first | omega | assumption | rfl) ?_)))
    refine ⟨?_, (by (repeat' first | assumption | exact St.Sub.refl _ | exact RowOk.sub (by assumption) (by assumption) | refine St.Sub.trans ?_ (RowOk.sub (by assumption) (by assumption)) | refine St.Sub.add ?_ ?_ _ | refine St.Sub.set ?_ ?_ ?_ _ | refine St.Sub.keep ?_ ?_ | refine St.WF.leave ?_ _ | refine St.WF.add ?_ _ | refine St.WF.set ?_ ?_ _ | refine St.WF.grow ?_ _ _ _ | refine St.WF.keep ?_ ?_ | (first | omega | (simp only [RowOk.lo, nx]; first | done | omega))))⟩
    rw [fieldS, if_neg (fun h => by rw [h.1] at hwb; cases hwb)]
    rfl
set_option maxRecDepth 200000 in
set_option maxHeartbeats 4000000 in
theorem refFieldS_d (s : DSch) (x : Str) (hok : okS s) (hw : s.weight ≤ 1000000) : DPure Tryz.prog 75 [encS s, .v (sv x)] (tupS (fieldS s x)) := by
  obtain ⟨o1, o2, o3, o4, o5⟩ := (okS_eq s).1 hok
  refine dpure_of_dwp mixed Tryz.func75 rfl (fun _ _ => by kernel_rfl) (rs := [.cell 4 25, .tmp 5]) rfl (by kernel_rfl) (tupS_closed _) (fun S hS => ?_)
  (simp (disch := first | decide | omega | (simp only [nx]; first | done | omega)) only [go_sem, Nat.reduceMul]; (repeat (with_reducible refine And.intro (by first | omega | assumption | rfl) ?_)))
  refine DCalls.of_pure (refAt_d s x hw) ?_
  (simp (disch := first | decide | omega | (simp only [nx]; first | done | omega)) only [go_sem, Nat.reduceMul]; (repeat (with_reducible refine And.intro (by first | omega | assumption | rfl) ?_)))
  refine DCalls.of_pure (refWholeS_d s) ?_
  cases hwb : wholeS s with
  | true =>
    by_cases hm : x ∈ s.words
    · obtain ⟨hpl, hf⟩ := fieldS_cases hwb hm
      have hi : ixI s.words x = (ixN s.words x : Int) := by unfold ixI; rw [if_pos hm]
      have b8 : decide ((ixN s.words x : Int) < 0) = false := by simp
      (simp (disch := first | decide | omega | (simp only [nx]; first | done | omega)) only [go_sem, Nat.reduceMul, hi, b8]; (repeat (with_reducible refine And.intro (by first | omega | assumption | rfl) ?_)))
      refine ⟨?_, (by (repeat' first | assumption | exact St.Sub.refl _ | exact RowOk.sub (by assumption) (by assumption) | refine St.Sub.trans ?_ (RowOk.sub (by assumption) (by assumption)) | refine St.Sub.add ?_ ?_ _ | refine St.Sub.set ?_ ?_ ?_ _ | refine St.Sub.keep ?_ ?_ | refine St.WF.leave ?_ _ | refine St.WF.add ?_ _ | refine St.WF.set ?_ ?_ _ | refine St.WF.grow ?_ _ _ _ | refine St.WF.keep ?_ ?_ | (first | omega | (simp only [RowOk.lo, nx]; first | done | omega))))⟩
      rw [frz_tupS, hf]
      rfl
    · have b7 : decide (ixI s.words x < 0) = true := by unfold ixI; rw [if_neg hm]; decide
      (simp (disch := first | decide | omega | (simp only [nx]; first | done | omega)) only [go_sem, Nat.reduceMul, b7]; (repeat (with_reducible refine And.intro (by first | omega | assumption | rfl) ?_)))
      refine ⟨?_, (by (repeat' first | assumption | exact St.Sub.refl _ | exact RowOk.sub (by assumption) (by assumption) | refine St.Sub.trans ?_ (RowOk.sub (by assumption) (by assumption)) | refine St.Sub.add ?_ ?_ _ | refine St.Sub.set ?_ ?_ ?_ _ | refine St.Sub.keep ?_ ?_ | refine St.WF.leave ?_ _ | refine St.WF.add ?_ _ | refine St.WF.set ?_ ?_ _ | refine St.WF.grow ?_ _ _ _ | refine St.WF.keep ?_ ?_ | (first | omega | (simp only [RowOk.lo, nx]; first | done | omega))))⟩
      rw [fieldS, if_neg (fun h => hm h.2)]
      rfl
  | false =>
    (simp (disch := first | decide | omega | (simp only [nx]; first | done | omega)) only [go_sem, Nat.reduceMul]; (repeat (with_reducible refine And.intro (by first | omega | assumption | rfl) ?_)))
    refine ⟨?_, (by (repeat' first | assumption | exact St.Sub.refl _ | exact RowOk.sub (by assumption) (by assumption) | refine St.Sub.trans ?_ (RowOk.sub (by assumption) (by assumption)) | refine St.Sub.add ?_ ?_ _ | refine St.Sub.set ?_ ?_ ?_ _ | refine St.Sub.keep ?_ ?_ | refine St.WF.leave ?_ _ | refine St.WF.add ?_ _ | refine St.WF.set ?_ ?_ _ | refine St.WF.grow ?_ _ _ _ | refine St.WF.keep ?_ ?_ | (first | omega | (simp only [RowOk.lo, nx]; first | done | omega))))⟩
    rw [fieldS, if_neg (fun h => by rw [h.1] at hwb; cases hwb)]
    rfl
end Go.Proofs.YtjjhjhjphhpeiaaGreatDoor

namespace Go.Proofs.YtjjhjhjphhpeiaaGreatDoor
open Go.RowKit
set_option linter.unusedSimpArgs false
/-- The type in a place. -/
def typS : List DStp → DSch → Option DSch
  | [], s => some s
  | p :: ps, s => if p.1 = [] then (if s.kind = 6 ∧ p.2 ≠ 0 ∧ 0 < s.parts.length then typS ps (s.parts.getD 0 default) else none) else match fieldS s p.1 with
    | some t => typS ps t
    | none => none
def stepT (s : DSch) (p : DStp) : Option DSch := if p.1 = [] then (if s.kind = 6 ∧ p.2 ≠ 0 ∧ 0 < s.parts.length then some (s.parts.getD 0 default) else none) else fieldS s p.1
theorem typS_cons (p : DStp) (ps : List DStp) (s : DSch) : typS (p :: ps) s = (stepT s p).bind (typS ps) := by
  rw [typS, stepT]
  split
  · split <;> rfl
  · cases fieldS s p.1 <;> rfl
theorem typS_app : ∀ (ps qs : List DStp) (s : DSch), typS (ps ++ qs) s = (typS ps s).bind (typS qs)
  | [], qs, s => rfl
  | p :: ps, qs, s => by
    rw [List.cons_append, typS_cons, typS_cons, Option.bind_assoc]
    congr 1
    funext t
    exact typS_app ps qs t
theorem fieldS_mem {s t : DSch} {x : Str} (h : fieldS s x = some t) : t ∈ s.parts := by
  by_cases hc : wholeS s = true ∧ x ∈ s.words
  · obtain ⟨hpl, hf⟩ := fieldS_cases hc.1 hc.2
    rw [hf] at h
    injection h with h
    rw [← h]; exact List.getElem_mem hpl
  · rw [fieldS, if_neg hc] at h; cases h
theorem stepT_mem {s t : DSch} {p : DStp} (h : stepT s p = some t) : t ∈ s.parts := by
  unfold stepT at h
  split at h
  · split at h
    · rename_i hc
      injection h with h
      rw [← h, getD_at hc.2.2]; exact List.getElem_mem _
    · cases h
  · exact fieldS_mem h
theorem typS_fine : ∀ (ps : List DStp) {s t : DSch}, typS ps s = some t → okS s → s.weight ≤ 1000000 → okS t ∧ t.weight ≤ 1000000
  | [], s, t, h, ho, hw => by injection h with h; subst h; exact ⟨ho, hw⟩
  | p :: ps, s, t, h, ho, hw => by
    rw [typS_cons] at h
    cases hs : stepT s p with
    | none => rw [hs] at h; cases h
    | some u =>
      rw [hs] at h
      have hm := stepT_mem hs
      exact typS_fine ps h (((okS_eq s).1 ho).2.2.2.2 u hm) (by have := DSch.weight_part hm; omega)
end Go.Proofs.YtjjhjhjphhpeiaaGreatDoor

namespace Go.Proofs.YtjjhjhjphhpeiaaGreatDoor
open Go.RowKit
set_option linter.unusedSimpArgs false
set_option maxRecDepth 200000 in
set_option maxHeartbeats 8000000 in
theorem refType_d : ∀ (ps : List DStp) (own : Own) (s : DSch), okS s → s.weight ≤ 1000000 → ps.length ≤ 1000000 → DPure Tryz.prog 38 [encS s, .sl own (ps.map encP)] (tupS (typS ps s)) := by
  intro ps
  induction ps with
  | nil =>
    intro own s hok hw hl
    refine dpure_of_dwp mixed Tryz.func38 rfl (fun _ _ => by kernel_rfl) (rs := [.cell 4 25, .tmp 5]) rfl (by kernel_rfl) (tupS_closed _) (fun S hS => ?_)
    (simp (disch := first | decide | omega | (simp only [nx]; first | done | omega)) only [go_sem, Nat.reduceMul]; (repeat (with_reducible refine And.intro (by first | omega | assumption | rfl) ?_)))
    refine ⟨?_, (by (repeat' first | assumption | exact St.Sub.refl _ | exact RowOk.sub (by assumption) (by assumption) | refine St.Sub.trans ?_ (RowOk.sub (by assumption) (by assumption)) | refine St.Sub.add ?_ ?_ _ | refine St.Sub.set ?_ ?_ ?_ _ | refine St.Sub.keep ?_ ?_ | refine St.WF.leave ?_ _ | refine St.WF.add ?_ _ | refine St.WF.set ?_ ?_ _ | refine St.WF.grow ?_ _ _ _ | refine St.WF.keep ?_ ?_ | (first | omega | (simp only [RowOk.lo, nx]; first | done | omega))))⟩
    rw [frz_tupS]; rfl
  | cons p ps ih =>
    intro own s hok hw hl
    refine dpure_of_dwp mixed Tryz.func38 rfl (fun _ _ => by kernel_rfl) (rs := [.cell 4 25, .tmp 5]) rfl (by kernel_rfl) (tupS_closed _) (fun S hS => ?_)
    have hl' : ps.length ≤ 1000000 := by simp only [List.length_cons] at hl; omega
    have b0 : (((ps.length + 1 : Nat) : Int) == 0) = false := by simp; omega
    have hok5 := (okS_eq s).1 hok
    have hnx := typS_cons p ps s
    by_cases h0 : p.1 = []
    · have b2 : (!(p.1 == [])) = false := by simp [h0]
      by_cases h6 : s.kind = 6
      · have b3 : (s.kind != 6) = false := by simp [h6]
        by_cases hz : p.2 = 0
        · have b4 : ((p.2 : Int) == 0) = true := by simp [hz]
          have hn : typS (p :: ps) s = none := by rw [hnx, stepT, if_pos h0, if_neg (by omega)]; rfl
          (simp (disch := first | decide | omega | (simp only [nx]; first | done | omega)) only [go_sem, Nat.reduceMul, b0, b2, b3, b4]; (repeat (with_reducible refine And.intro (by first | omega | assumption | rfl) ?_)))
          refine ⟨?_, (by (repeat' first | assumption | exact St.Sub.refl _ | exact RowOk.sub (by assumption) (by assumption) | refine St.Sub.trans ?_ (RowOk.sub (by assumption) (by assumption)) | refine St.Sub.add ?_ ?_ _ | refine St.Sub.set ?_ ?_ ?_ _ | refine St.Sub.keep ?_ ?_ | refine St.WF.leave ?_ _ | refine St.WF.add ?_ _ | refine St.WF.set ?_ ?_ _ | refine St.WF.grow ?_ _ _ _ | refine St.WF.keep ?_ ?_ | (first | omega | (simp only [RowOk.lo, nx]; first | done | omega))))⟩
          rw [hn]; rfl
        · have b4 : ((p.2 : Int) == 0) = false := by simp; omega
          by_cases hp : 0 < s.parts.length
          · have b5 : ((s.parts.length : Int) == 0) = false := by simp; intro e; rw [e] at hp; simp at hp
            have hs : stepT s p = some s.parts[0] := by rw [stepT, if_pos h0, if_pos ⟨h6, hz, hp⟩, getD_at hp]
            have hn : typS (p :: ps) s = typS ps s.parts[0] := by rw [hnx, hs]; rfl
            have hm := List.getElem_mem hp
            (simp (disch := first | decide | omega | (simp only [nx]; first | done | omega)) only [go_sem, Nat.reduceMul, b0, b2, b3, b4, b5]; (repeat (with_reducible refine And.intro (by first | omega | assumption | rfl) ?_)))
            (refine ddraw_any (fun S' => S'.ob S.next = some (.box 25 (encS s).cells)) 11 (by (first | (simp (disch := first | decide | omega | (simp only [nx]; first | done | omega)) only [go_sem, Nat.reduceMul, tupS]; first | done | rfl) | rfl)) (by kernel_rfl) ?_; refine s_take 0 rfl (by kernel_rfl) (by kernel_rfl) (v := ?v1) (fun S' hz => dquietR_of ?h1) <| s_take 1 rfl (by kernel_rfl) (by kernel_rfl) (v := ?v2) (fun S' hz => dquietR_of ?h2) <| s_take 2 rfl (by kernel_rfl) (by kernel_rfl) (v := ?v3) (fun S' hz => dquietR_of ?h3) <| s_take 3 rfl (by kernel_rfl) (by kernel_rfl) (v := ?v4) (fun S' hz => dquietR_of ?h4) <| s_take 4 rfl (by kernel_rfl) (by kernel_rfl) (v := ?v5) (fun S' hz => dquietR_of ?h5) <| s_take 5 rfl (by kernel_rfl) (by kernel_rfl) (v := ?v6) (fun S' hz => dquietR_of ?h6) <| ?k6; (case h1 | h2 | h3 | h4 | h5 | h6 => ((simp (disch := first | decide | omega | (simp only [nx]; first | done | omega)) only [go_sem, Nat.reduceMul, tupS, hz]; (repeat (with_reducible refine And.intro (by first | omega | assumption | rfl) ?_))); first | done | exact rfl | omega)); refine s_take 6 rfl (by kernel_rfl) (by kernel_rfl) (v := ?v7) (fun S' hz => dquietR_of ?h7) ?k7; (case h7 => ((simp (disch := first | decide | omega | (simp only [nx]; first | done | omega)) only [go_sem, Nat.reduceMul, tupS, hz]; (repeat (with_reducible refine And.intro (by first | omega | assumption | rfl) ?_))); refine dqgo_mk (ih .no s.parts[0] (hok5.2.2.2.2 _ hm) (by have := DSch.weight_part hm; omega) hl') ?_; exact rfl)); refine s_take 7 rfl (by kernel_rfl) (by kernel_rfl) (v := ?v8) (fun S' hz => dquietR_of ?h8) <| s_take 8 rfl (by kernel_rfl) (by kernel_rfl) (v := ?v9) (fun S' hz => dquietR_of ?h9) <| ?k9; (case h8 | h9 => ((simp (disch := first | decide | omega | (simp only [nx]; first | done | omega)) only [go_sem, Nat.reduceMul, tupS, hz]; (repeat (with_reducible refine And.intro (by first | omega | assumption | rfl) ?_))); first | done | exact rfl | omega)); refine s_split [9] (by kernel_rfl) (by simp) ?_; intro j_ hj_; obtain rfl : j_ = 9 := (by simpa using hj_); clear hj_; refine s_op rfl ?_; (simp (disch := first | decide | omega | (simp only [nx]; first | done | omega)) only [go_sem, Nat.reduceMul, tupS]; (repeat (with_reducible refine And.intro (by first | omega | assumption | rfl) ?_))); refine s_take 10 rfl (by kernel_rfl) (by kernel_rfl) (v := ?v10) (fun S' hz => dquietR_of ?h10) ?k10; (case h10 => ((simp (disch := first | decide | omega | (simp only [nx]; first | done | omega)) only [go_sem, Nat.reduceMul, tupS, hz]; (repeat (with_reducible refine And.intro (by first | omega | assumption | rfl) ?_))); first | done | exact rfl | omega)); refine s_done (by kernel_rfl) ?_; (simp (disch := first | decide | omega | (simp only [nx]; first | done | omega)) only [go_sem, Nat.reduceMul, tupS]; (repeat (with_reducible refine And.intro (by first | omega | assumption | rfl) ?_))))
            refine ⟨?_, (by (repeat' first | assumption | exact St.Sub.refl _ | exact RowOk.sub (by assumption) (by assumption) | refine St.Sub.trans ?_ (RowOk.sub (by assumption) (by assumption)) | refine St.Sub.add ?_ ?_ _ | refine St.Sub.set ?_ ?_ ?_ _ | refine St.Sub.keep ?_ ?_ | refine St.WF.leave ?_ _ | refine St.WF.add ?_ _ | refine St.WF.set ?_ ?_ _ | refine St.WF.grow ?_ _ _ _ | refine St.WF.keep ?_ ?_ | (first | omega | (simp only [RowOk.lo, nx]; first | done | omega))))⟩
            rw [hn, frz_tupS]
          · have b5 : ((s.parts.length : Int) == 0) = true := by simp; exact List.eq_nil_of_length_eq_zero (by omega)
            have hn : typS (p :: ps) s = none := by rw [hnx, stepT, if_pos h0, if_neg (by omega)]; rfl
            (simp (disch := first | decide | omega | (simp only [nx]; first | done | omega)) only [go_sem, Nat.reduceMul, b0, b2, b3, b4, b5]; (repeat (with_reducible refine And.intro (by first | omega | assumption | rfl) ?_)))
            refine ⟨?_, (by (repeat' first | assumption | exact St.Sub.refl _ | exact RowOk.sub (by assumption) (by assumption) | refine St.Sub.trans ?_ (RowOk.sub (by assumption) (by assumption)) | refine St.Sub.add ?_ ?_ _ | refine St.Sub.set ?_ ?_ ?_ _ | refine St.Sub.keep ?_ ?_ | refine St.WF.leave ?_ _ | refine St.WF.add ?_ _ | refine St.WF.set ?_ ?_ _ | refine St.WF.grow ?_ _ _ _ | refine St.WF.keep ?_ ?_ | (first | omega | (simp only [RowOk.lo, nx]; first | done | omega))))⟩
            rw [hn]; rfl
      · have b3 : (s.kind != 6) = true := by simp [h6]
        have hn : typS (p :: ps) s = none := by rw [hnx, stepT, if_pos h0, if_neg (by omega)]; rfl
        (simp (disch := first | decide | omega | (simp only [nx]; first | done | omega)) only [go_sem, Nat.reduceMul, b0, b2, b3]; (repeat (with_reducible refine And.intro (by first | omega | assumption | rfl) ?_)))
        refine ⟨?_, (by (repeat' first | assumption | exact St.Sub.refl _ | exact RowOk.sub (by assumption) (by assumption) | refine St.Sub.trans ?_ (RowOk.sub (by assumption) (by assumption)) | refine St.Sub.add ?_ ?_ _ | refine St.Sub.set ?_ ?_ ?_ _ | refine St.Sub.keep ?_ ?_ | refine St.WF.leave ?_ _ | refine St.WF.add ?_ _ | refine St.WF.set ?_ ?_ _ | refine St.WF.grow ?_ _ _ _ | refine St.WF.keep ?_ ?_ | (first | omega | (simp only [RowOk.lo, nx]; first | done | omega))))⟩
        rw [hn]; rfl
    · have b2 : (!(p.1 == [])) = true := by simp [h0]
      have hs : stepT s p = fieldS s p.1 := by rw [stepT, if_neg h0]
      (simp (disch := first | decide | omega | (simp only [nx]; first | done | omega)) only [go_sem, Nat.reduceMul, b0, b2]; (repeat (with_reducible refine And.intro (by first | omega | assumption | rfl) ?_)))
      cases hf : fieldS s p.1 with
      | none =>
        have hn : typS (p :: ps) s = none := by rw [hnx, hs, hf]; rfl
        (refine ddraw_any (fun S' => S'.ob S.next = some (.box 25 (encS s).cells)) 12 (by (first | (simp (disch := first | decide | omega | (simp only [nx]; first | done | omega)) only [go_sem, Nat.reduceMul, tupS, hf, Option.isSome_none]; first | done | rfl) | rfl)) (by kernel_rfl) ?_; refine s_take 0 rfl (by kernel_rfl) (by kernel_rfl) (v := ?v11) (fun S' hz => dquietR_of ?h11) <| s_take 1 rfl (by kernel_rfl) (by kernel_rfl) (v := ?v12) (fun S' hz => dquietR_of ?h12) <| s_take 2 rfl (by kernel_rfl) (by kernel_rfl) (v := ?v13) (fun S' hz => dquietR_of ?h13) <| s_take 3 rfl (by kernel_rfl) (by kernel_rfl) (v := ?v14) (fun S' hz => dquietR_of ?h14) <| s_take 4 rfl (by kernel_rfl) (by kernel_rfl) (v := ?v15) (fun S' hz => dquietR_of ?h15) <| ?k15; (case h11 | h12 | h13 | h14 | h15 => ((simp (disch := first | decide | omega | (simp only [nx]; first | done | omega)) only [go_sem, Nat.reduceMul, tupS, hf, Option.isSome_none, hz]; (repeat (with_reducible refine And.intro (by first | omega | assumption | rfl) ?_))); first | done | exact rfl | omega)); refine s_take 5 rfl (by kernel_rfl) (by kernel_rfl) (v := ?v16) (fun S' hz => dquietR_of ?h16) ?k16; (case h16 => ((simp (disch := first | decide | omega | (simp only [nx]; first | done | omega)) only [go_sem, Nat.reduceMul, tupS, hf, Option.isSome_none, hz]; (repeat (with_reducible refine And.intro (by first | omega | assumption | rfl) ?_))); refine dqgo_mk (refFieldS_d s p.1 hok hw) ?_; exact rfl)); refine s_take 6 rfl (by kernel_rfl) (by kernel_rfl) (v := ?v17) (fun S' hz => dquietR_of ?h17) <| s_take 7 rfl (by kernel_rfl) (by kernel_rfl) (v := ?v18) (fun S' hz => dquietR_of ?h18) <| s_take 8 rfl (by kernel_rfl) (by kernel_rfl) (v := ?v19) (fun S' hz => dquietR_of ?h19) <| ?k19; (case h17 | h18 | h19 => ((simp (disch := first | decide | omega | (simp only [nx]; first | done | omega)) only [go_sem, Nat.reduceMul, tupS, hf, Option.isSome_none, hz]; (repeat (with_reducible refine And.intro (by first | omega | assumption | rfl) ?_))); first | done | exact rfl | omega)); refine s_split [9] (by kernel_rfl) (by simp) ?_; intro j_ hj_; obtain rfl : j_ = 9 := (by simpa using hj_); clear hj_; refine s_op rfl ?_; (simp (disch := first | decide | omega | (simp only [nx]; first | done | omega)) only [go_sem, Nat.reduceMul, tupS, hf, Option.isSome_none]; (repeat (with_reducible refine And.intro (by first | omega | assumption | rfl) ?_))); refine s_split [10] (by kernel_rfl) (by simp) ?_; intro j_ hj_; obtain rfl : j_ = 10 := (by simpa using hj_); clear hj_; refine s_op rfl ?_; (simp (disch := first | decide | omega | (simp only [nx]; first | done | omega)) only [go_sem, Nat.reduceMul, tupS, hf, Option.isSome_none]; (repeat (with_reducible refine And.intro (by first | omega | assumption | rfl) ?_))); refine s_take 11 rfl (by kernel_rfl) (by kernel_rfl) (v := ?v20) (fun S' hz => dquietR_of ?h20) ?k20; (case h20 => ((simp (disch := first | decide | omega | (simp only [nx]; first | done | omega)) only [go_sem, Nat.reduceMul, tupS, hf, Option.isSome_none, hz]; (repeat (with_reducible refine And.intro (by first | omega | assumption | rfl) ?_))); first | done | exact rfl | omega)); refine s_done (by kernel_rfl) ?_; (simp (disch := first | decide | omega | (simp only [nx]; first | done | omega)) only [go_sem, Nat.reduceMul, tupS, hf, Option.isSome_none]; (repeat (with_reducible refine And.intro (by first | omega | assumption | rfl) ?_))))
        refine ⟨?_, (by (repeat' first | assumption | exact St.Sub.refl _ | exact RowOk.sub (by assumption) (by assumption) | refine St.Sub.trans ?_ (RowOk.sub (by assumption) (by assumption)) | refine St.Sub.add ?_ ?_ _ | refine St.Sub.set ?_ ?_ ?_ _ | refine St.Sub.keep ?_ ?_ | refine St.WF.leave ?_ _ | refine St.WF.add ?_ _ | refine St.WF.set ?_ ?_ _ | refine St.WF.grow ?_ _ _ _ | refine St.WF.keep ?_ ?_ | (first | omega | (simp only [RowOk.lo, nx]; first | done | omega))))⟩
        rw [hn]; rfl
      | some t =>
        have hn : typS (p :: ps) s = typS ps t := by rw [hnx, hs, hf]; rfl
        have hm := fieldS_mem hf
        (refine ddraw_any (fun S' => S'.ob S.next = some (.box 25 (encS s).cells)) 12 (by (first | (simp (disch := first | decide | omega | (simp only [nx]; first | done | omega)) only [go_sem, Nat.reduceMul, tupS, hf, Option.isSome_some, Option.getD_some]; first | done | rfl) | rfl)) (by kernel_rfl) ?_; refine s_take 0 rfl (by kernel_rfl) (by kernel_rfl) (v := ?v21) (fun S' hz => dquietR_of ?h21) <| s_take 1 rfl (by kernel_rfl) (by kernel_rfl) (v := ?v22) (fun S' hz => dquietR_of ?h22) <| s_take 2 rfl (by kernel_rfl) (by kernel_rfl) (v := ?v23) (fun S' hz => dquietR_of ?h23) <| s_take 3 rfl (by kernel_rfl) (by kernel_rfl) (v := ?v24) (fun S' hz => dquietR_of ?h24) <| s_take 4 rfl (by kernel_rfl) (by kernel_rfl) (v := ?v25) (fun S' hz => dquietR_of ?h25) <| ?k25; (case h21 | h22 | h23 | h24 | h25 => ((simp (disch := first | decide | omega | (simp only [nx]; first | done | omega)) only [go_sem, Nat.reduceMul, tupS, hf, Option.isSome_some, Option.getD_some, hz]; (repeat (with_reducible refine And.intro (by first | omega | assumption | rfl) ?_))); first | done | exact rfl | omega)); refine s_take 5 rfl (by kernel_rfl) (by kernel_rfl) (v := ?v26) (fun S' hz => dquietR_of ?h26) ?k26; (case h26 => ((simp (disch := first | decide | omega | (simp only [nx]; first | done | omega)) only [go_sem, Nat.reduceMul, tupS, hf, Option.isSome_some, Option.getD_some, hz]; (repeat (with_reducible refine And.intro (by first | omega | assumption | rfl) ?_))); refine dqgo_mk (refFieldS_d s p.1 hok hw) ?_; exact rfl)); refine s_take 6 rfl (by kernel_rfl) (by kernel_rfl) (v := ?v27) (fun S' hz => dquietR_of ?h27) <| s_take 7 rfl (by kernel_rfl) (by kernel_rfl) (v := ?v28) (fun S' hz => dquietR_of ?h28) <| s_take 8 rfl (by kernel_rfl) (by kernel_rfl) (v := ?v29) (fun S' hz => dquietR_of ?h29) <| ?k29; (case h27 | h28 | h29 => ((simp (disch := first | decide | omega | (simp only [nx]; first | done | omega)) only [go_sem, Nat.reduceMul, tupS, hf, Option.isSome_some, Option.getD_some, hz]; (repeat (with_reducible refine And.intro (by first | omega | assumption | rfl) ?_))); first | done | exact rfl | omega)); refine s_split [9] (by kernel_rfl) (by simp) ?_; intro j_ hj_; obtain rfl : j_ = 9 := (by simpa using hj_); clear hj_; refine s_op rfl ?_; (simp (disch := first | decide | omega | (simp only [nx]; first | done | omega)) only [go_sem, Nat.reduceMul, tupS, hf, Option.isSome_some, Option.getD_some]; (repeat (with_reducible refine And.intro (by first | omega | assumption | rfl) ?_))); refine s_split [10] (by kernel_rfl) (by simp) ?_; intro j_ hj_; obtain rfl : j_ = 10 := (by simpa using hj_); clear hj_; refine s_op rfl ?_; (simp (disch := first | decide | omega | (simp only [nx]; first | done | omega)) only [go_sem, Nat.reduceMul, tupS, hf, Option.isSome_some, Option.getD_some]; (repeat (with_reducible refine And.intro (by first | omega | assumption | rfl) ?_))); refine s_take 11 rfl (by kernel_rfl) (by kernel_rfl) (v := ?v30) (fun S' hz => dquietR_of ?h30) ?k30; (case h30 => ((simp (disch := first | decide | omega | (simp only [nx]; first | done | omega)) only [go_sem, Nat.reduceMul, tupS, hf, Option.isSome_some, Option.getD_some, hz]; (repeat (with_reducible refine And.intro (by first | omega | assumption | rfl) ?_))); first | done | exact rfl | omega)); refine s_done (by kernel_rfl) ?_; (simp (disch := first | decide | omega | (simp only [nx]; first | done | omega)) only [go_sem, Nat.reduceMul, tupS, hf, Option.isSome_some, Option.getD_some]; (repeat (with_reducible refine And.intro (by first | omega | assumption | rfl) ?_))))
        (refine ddraw_any (fun S' => S'.ob (S.next + 1 + 1) = some (.box 25 (encS t).cells)) 8 (by (first | (simp (disch := first | decide | omega | (simp only [nx]; first | done | omega)) only [go_sem, Nat.reduceMul, tupS]; first | done | rfl) | rfl)) (by kernel_rfl) ?_; refine s_take 0 rfl (by kernel_rfl) (by kernel_rfl) (v := ?v31) (fun S' hz => dquietR_of ?h31) <| s_take 1 rfl (by kernel_rfl) (by kernel_rfl) (v := ?v32) (fun S' hz => dquietR_of ?h32) <| s_take 2 rfl (by kernel_rfl) (by kernel_rfl) (v := ?v33) (fun S' hz => dquietR_of ?h33) <| ?k33; (case h31 | h32 | h33 => ((simp (disch := first | decide | omega | (simp only [nx]; first | done | omega)) only [go_sem, Nat.reduceMul, tupS, hz]; (repeat (with_reducible refine And.intro (by first | omega | assumption | rfl) ?_))); first | done | exact rfl | omega)); refine s_take 3 rfl (by kernel_rfl) (by kernel_rfl) (v := ?v34) (fun S' hz => dquietR_of ?h34) ?k34; (case h34 => ((simp (disch := first | decide | omega | (simp only [nx]; first | done | omega)) only [go_sem, Nat.reduceMul, tupS, hz]; (repeat (with_reducible refine And.intro (by first | omega | assumption | rfl) ?_))); refine dqgo_mk (ih .no t (hok5.2.2.2.2 _ hm) (by have := DSch.weight_part hm; omega) hl') ?_; exact rfl)); refine s_take 4 rfl (by kernel_rfl) (by kernel_rfl) (v := ?v35) (fun S' hz => dquietR_of ?h35) <| s_take 5 rfl (by kernel_rfl) (by kernel_rfl) (v := ?v36) (fun S' hz => dquietR_of ?h36) <| ?k36; (case h35 | h36 => ((simp (disch := first | decide | omega | (simp only [nx]; first | done | omega)) only [go_sem, Nat.reduceMul, tupS, hz]; (repeat (with_reducible refine And.intro (by first | omega | assumption | rfl) ?_))); first | done | exact rfl | omega)); refine s_split [6] (by kernel_rfl) (by simp) ?_; intro j_ hj_; obtain rfl : j_ = 6 := (by simpa using hj_); clear hj_; refine s_op rfl ?_; (simp (disch := first | decide | omega | (simp only [nx]; first | done | omega)) only [go_sem, Nat.reduceMul, tupS]; (repeat (with_reducible refine And.intro (by first | omega | assumption | rfl) ?_))); refine s_take 7 rfl (by kernel_rfl) (by kernel_rfl) (v := ?v37) (fun S' hz => dquietR_of ?h37) ?k37; (case h37 => ((simp (disch := first | decide | omega | (simp only [nx]; first | done | omega)) only [go_sem, Nat.reduceMul, tupS, hz]; (repeat (with_reducible refine And.intro (by first | omega | assumption | rfl) ?_))); first | done | exact rfl | omega)); refine s_done (by kernel_rfl) ?_; (simp (disch := first | decide | omega | (simp only [nx]; first | done | omega)) only [go_sem, Nat.reduceMul, tupS]; (repeat (with_reducible refine And.intro (by first | omega | assumption | rfl) ?_))))
        refine ⟨?_, (by (repeat' first | assumption | exact St.Sub.refl _ | exact RowOk.sub (by assumption) (by assumption) | refine St.Sub.trans ?_ (RowOk.sub (by assumption) (by assumption)) | refine St.Sub.add ?_ ?_ _ | refine St.Sub.set ?_ ?_ ?_ _ | refine St.Sub.keep ?_ ?_ | refine St.WF.leave ?_ _ | refine St.WF.add ?_ _ | refine St.WF.set ?_ ?_ _ | refine St.WF.grow ?_ _ _ _ | refine St.WF.keep ?_ ?_ | (first | omega | (simp only [RowOk.lo, nx]; first | done | omega))))⟩
        rw [hn, frz_tupS]
end Go.Proofs.YtjjhjhjphhpeiaaGreatDoor

namespace Go.Proofs.YtjjhjhjphhpeiaaGreatDoor
open Go.RowKit
/-- A value that is right but for its depth, and fits. -/
inductive GV : DVal → DSch → Prop
  | mk {v : DVal} {s : DSch} (h1 : hereV v = true) (h2 : headF v s = true) (h3 : ∀ i, i < v.parts.length → atF s i < s.parts.length) (h4 : ∀ i, (hi : i < v.parts.length) → GV v.parts[i] (s.parts.getD (atF s i) default)) : GV v s
theorem GV.here_ {v : DVal} {s : DSch} (h : GV v s) : hereV v = true := by cases h; assumption
theorem GV.head {v : DVal} {s : DSch} (h : GV v s) : headF v s = true := by cases h; assumption
theorem GV.at_ {v : DVal} {s : DSch} (h : GV v s) {i : Nat} (hi : i < v.parts.length) : atF s i < s.parts.length := by cases h; rename_i h3 h4; exact h3 i hi
theorem GV.part {v : DVal} {s : DSch} (h : GV v s) {i : Nat} (hi : i < v.parts.length) : GV v.parts[i] (s.parts.getD (atF s i) default) := by cases h; rename_i h3 h4; exact h4 i hi
theorem GV.depth : ∀ (k : Nat) {v : DVal} {s : DSch}, s.depth ≤ k → GV v s → v.depth ≤ s.depth
  | 0, v, s, hk, h => by have := s.depth_pos; omega
  | k + 1, v, s, hk, h => by
    rw [v.depth_eq]
    have hs := s.depth_pos
    have : DVal.depths v.parts ≤ s.depth - 1 := (depthsV_all _ _).2 fun p hp => by
      obtain ⟨i, hi, rfl⟩ := List.getElem_of_mem hp
      have h1 := h.at_ hi
      have h2 := h.part hi
      rw [getD_at h1] at h2
      have h3 := DSch.depth_part (List.getElem_mem h1)
      have := GV.depth k (by omega) h2
      omega
    omega
theorem GV.sound : ∀ (k : Nat) {v : DVal} {s : DSch}, GV v s → soundV k v = true ∧ fitsV k v s = true
  | 0, v, s, h => ⟨rfl, rfl⟩
  | k + 1, v, s, h => by
    rw [soundV, fitsV, h.here_, h.head, Bool.true_and, Bool.true_and]
    refine ⟨List.all_eq_true.2 fun p hp => ?_, List.all_eq_true.2 fun i hi => ?_⟩
    · obtain ⟨i, hi, rfl⟩ := List.getElem_of_mem hp
      exact (GV.sound k (h.part hi)).1
    · have hi := List.mem_range.1 hi
      rw [getD_at hi]
      exact (GV.sound k (h.part hi)).2
theorem GV.of : ∀ (k : Nat) {v : DVal} {s : DSch}, v.depth ≤ k → RS s → soundV k v = true → fitsV k v s = true → GV v s
  | 0, v, s, hk, _, _, _ => by have := v.depth_pos; omega
  | k + 1, v, s, hk, hs, h1, h2 => by
    have hrv : RV v := ⟨k + 1, hk, h1⟩
    rw [soundV, Bool.and_eq_true] at h1
    rw [fitsV, Bool.and_eq_true] at h2
    refine .mk h1.1 h2.1 (fun i hi => atF_lt hrv hs h2.1 hi) fun i hi => ?_
    have ha := atF_lt hrv hs h2.1 hi
    have h3 := List.all_eq_true.1 h2.2 i (List.mem_range.2 hi)
    have h4 := List.all_eq_true.1 h1.2 _ (List.getElem_mem hi)
    rw [getD_at hi] at h3
    have := DVal.depth_part (List.getElem_mem hi)
    refine GV.of k (by omega) ?_ h4 h3
    rw [getD_at ha]
    exact hs.part (List.getElem_mem ha)
theorem RS.of_top {s : DSch} (h : rightS 5 s = true) : RS s ∧ s.depth ≤ 5 := by
  have h1 := RS.of_right h
  refine ⟨⟨_, Nat.le_refl _, h1⟩, ?_⟩
  have := right_sound 5 s s.depth (Nat.le_refl _)
  rw [h] at this
  have := (Bool.and_eq_true _ _ ▸ this.symm).1
  simpa using this
theorem rightS_of {s : DSch} (h : RS s) (hd : s.depth ≤ 5) : rightS 5 s = true := by
  obtain ⟨m, h1, h2⟩ := h
  rw [right_sound 5 s m h1, h2, decide_eq_true hd]; rfl
theorem fitsTop_iff {v : DVal} {s : DSch} : fitsTop v s = true ↔ rightS 5 s = true ∧ GV v s := by
  constructor
  · intro h
    rw [fitsTop, Bool.and_eq_true, Bool.and_eq_true] at h
    obtain ⟨h1, h2, h3⟩ := h
    have := right_soundV 5 v v.depth (Nat.le_refl _)
    rw [h1] at this
    exact ⟨h2, GV.of v.depth (Nat.le_refl _) (RS.of_top h2).1 (Bool.and_eq_true _ _ ▸ this.symm).2 h3⟩
  · rintro ⟨h1, h2⟩
    obtain ⟨_, hd⟩ := RS.of_top h1
    have hv := GV.depth s.depth (Nat.le_refl _) h2
    have h3 := right_soundV 5 v v.depth (Nat.le_refl _)
    rw [(h2.sound v.depth).1, decide_eq_true (by omega : v.depth ≤ 5)] at h3
    rw [fitsTop, h3, h1, (h2.sound v.depth).2]; rfl
theorem GV.rv {v : DVal} {s : DSch} (h : GV v s) : RV v := ⟨v.depth, Nat.le_refl _, (h.sound v.depth).1⟩
theorem GV.kind {v : DVal} {s : DSch} (h : GV v s) : v.kind = s.kind := by
  have := h.head
  rw [headF, Bool.and_eq_true, decide_eq_true_eq] at this
  exact this.1
/-- Another part in the place of a part. -/
theorem GV.set {v : DVal} {s : DSch} (h : GV v s) {i : Nat} (hi : i < v.parts.length) {y : DVal} (hy : GV y (s.parts.getD (atF s i) default)) : GV (v.withParts (v.parts.set i y)) s := by
  have hl : (v.withParts (v.parts.set i y)).parts.length = v.parts.length := List.length_set
  refine .mk ?_ ?_ (fun j hj => h.at_ (by omega)) fun j hj => ?_
  · have := h.here_
    unfold hereV at this ⊢
    rw [hl]
    exact this
  · exact h.head
  · have hj' : j < (v.parts.set i y).length := hj
    show GV ((v.parts.set i y)[j]'hj') _
    rw [List.getElem_set]
    split
    · rename_i e; subst e; exact hy
    · exact h.part (by omega)
/-- The part that a step leads to fits the type that it leads to. -/
theorem GV.step {v : DVal} {s t : DSch} (h : GV v s) (hs : RS s) {p : DStp} (hp : inP v p) (ht : stepT s p = some t) : ∃ hi : plN v p < v.parts.length, s.parts.getD (atF s (plN v p)) default = t ∧ GV v.parts[plN v p] t := by
  have hi : plN v p < v.parts.length := by have := hp.1; have := hp.2; unfold plN; omega
  have hk := h.kind
  have key : s.parts.getD (atF s (plN v p)) default = t := by
    unfold stepT at ht
    have hpl := hp.1
    unfold placeOf at hpl
    by_cases h0 : p.1 = []
    · rw [if_pos h0] at ht hpl
      split at ht
      · rename_i hc
        injection ht with ht
        rw [atF, if_pos hc.1]
        exact ht
      · cases ht
    · rw [if_neg h0] at ht hpl
      unfold fieldS at ht
      split at ht
      · rename_i hc
        injection ht with ht
        have h5 : s.kind = 5 := by
          have := hc.1
          simp only [wholeS, Bool.and_eq_true, decide_eq_true_eq] at this
          exact this.1
        have hn : v.names = s.words := by
          have := h.head
          rw [headF, Bool.and_eq_true, Bool.and_eq_true] at this
          have h2 := this.2.2
          rw [decide_eq_true (by omega : v.kind = 5)] at h2
          simpa using h2
        have hw : wholeB v = true ∧ p.1 ∈ v.names := by
          refine ⟨?_, by rw [hn]; exact hc.2⟩
          have := h.rv.here
          simp only [wholeB, Bool.and_eq_true, decide_eq_true_eq]
          omega
        have hpn : plN v p = ixN s.words p.1 := by
          unfold plN placeOf
          rw [if_neg h0, if_pos hw, hn]
          simp
        rw [atF, if_neg (by omega), hpn]
        exact ht
      · cases ht
  exact ⟨hi, key, key ▸ h.part hi⟩
theorem RS.step {s t : DSch} (h : RS s) {p : DStp} (ht : stepT s p = some t) : RS t := h.part (stepT_mem ht)
theorem GV.get : ∀ (ps : List DStp) {v x : DVal} {s t : DSch}, GV v s → RS s → typS ps s = some t → getV ps v = some x → GV x t ∧ RS t ∧ t.depth + ps.length ≤ s.depth
  | [], v, x, s, t, h, hs, ht, hx => by
    injection ht with ht
    injection hx with hx
    subst ht hx
    exact ⟨h, hs, by simp⟩
  | p :: ps, v, x, s, t, h, hs, ht, hx => by
    rw [typS_cons] at ht
    cases hq : stepT s p with
    | none => rw [hq] at ht; cases ht
    | some u =>
      rw [hq] at ht
      rw [getV_cons] at hx
      split at hx
      · rename_i hin
        obtain ⟨hi, _, hg⟩ := h.step hs hin hq
        rw [getD_at hi] at hx
        have hd := DSch.depth_part (stepT_mem hq)
        obtain ⟨g1, g2, g3⟩ := GV.get ps hg (hs.step hq) ht hx
        exact ⟨g1, g2, by simp only [List.length_cons]; omega⟩
      · cases hx
theorem GV.put : ∀ (ps : List DStp) {v x y : DVal} {s t : DSch}, GV v s → RS s → typS ps s = some t → getV ps v = some x → GV y t → GV (chV (fun _ => y) ps v) s
  | [], v, x, y, s, t, h, hs, ht, hx, hy => by injection ht with ht; subst ht; exact hy
  | p :: ps, v, x, y, s, t, h, hs, ht, hx, hy => by
    rw [typS_cons] at ht
    cases hq : stepT s p with
    | none => rw [hq] at ht; cases ht
    | some u =>
      rw [hq] at ht
      rw [getV_cons] at hx
      split at hx
      · rename_i hin
        obtain ⟨hi, hu, hg⟩ := h.step hs hin hq
        rw [getD_at hi] at hx
        rw [chV, if_pos hin, getD_at hi]
        refine h.set hi ?_
        rw [hu]
        exact GV.put ps hg (hs.step hq) ht hx hy
      · cases hx
/-- A value that fits has something in each place that has a type, but for elements that aren't there. -/
theorem idOk_iff (l : List Nat) : (List.range l.length).all (idOk l) = true ↔ l.Nodup ∧ 0 ∉ l := by
  rw [List.all_eq_true]
  constructor
  · intro h
    have h' := fun i (hi : i < l.length) => h i (List.mem_range.2 hi)
    simp only [idOk, Bool.and_eq_true, Bool.not_eq_true', decide_eq_false_iff_not] at h'
    refine ⟨List.pairwise_iff_getElem.2 fun i j hi hj hij e => ?_, fun h0 => ?_⟩
    · have := (h' j hj).2
      rw [getD_at hj, ← e, List.mem_take_iff_getElem] at this
      exact this ⟨i, by omega, rfl⟩
    · obtain ⟨i, hi, e⟩ := List.getElem_of_mem h0
      have := (h' i hi).1
      rw [getD_at hi, e] at this
      simp at this
  · rintro ⟨h1, h2⟩ i hi
    have hi := List.mem_range.1 hi
    simp only [idOk, Bool.and_eq_true, Bool.not_eq_true', decide_eq_false_iff_not]
    rw [getD_at hi]
    refine ⟨?_, fun hm => ?_⟩
    · have : l[i] ≠ 0 := fun e => h2 (e ▸ List.getElem_mem hi)
      simpa using this
    · rw [List.mem_take_iff_getElem] at hm
      obtain ⟨j, hj, e⟩ := hm
      exact List.pairwise_iff_getElem.1 h1 j i (by omega) hi (by omega) e
end Go.Proofs.YtjjhjhjphhpeiaaGreatDoor

namespace Go.Proofs.YtjjhjhjphhpeiaaGreatDoor
open Go.RowKit
/-- What a list that fits is. -/
structure GList (v : DVal) (t : DSch) : Prop where
  kind : v.kind = 6
  names : v.names = []
  nodup : v.ids.Nodup
  zero : 0 ∉ v.ids
  most : v.ids.length ≤ 12
  len : v.parts.length = v.ids.length
  parts : ∀ p ∈ v.parts, GV p (t.parts.getD 0 default)
theorem here_parts {v : DVal} (h : hereV v = true) : ¬ bad1 v.kind v.n v.s.length v.names.length v.ids.length ∧ ¬ bad2 v.kind v.n v.s.length v.names.length v.ids.length v.parts.length (nameB v.s) ∧ (List.range v.names.length).all (riseOk v.names) = true ∧ (List.range v.ids.length).all (idOk v.ids) = true := by
  rw [hereV, Bool.and_eq_true, Bool.and_eq_true, Bool.and_eq_true, Bool.not_eq_true', Bool.not_eq_true', decide_eq_false_iff_not, decide_eq_false_iff_not] at h
  exact ⟨h.1.1, h.1.2, h.2.1, h.2.2⟩
theorem here_of {v : DVal} (h : ¬ bad1 v.kind v.n v.s.length v.names.length v.ids.length ∧ ¬ bad2 v.kind v.n v.s.length v.names.length v.ids.length v.parts.length (nameB v.s) ∧ (List.range v.names.length).all (riseOk v.names) = true ∧ (List.range v.ids.length).all (idOk v.ids) = true) : hereV v = true := by
  rw [hereV, Bool.and_eq_true, Bool.and_eq_true, Bool.and_eq_true, Bool.not_eq_true', Bool.not_eq_true', decide_eq_false_iff_not, decide_eq_false_iff_not]
  exact ⟨⟨h.1, h.2.1⟩, h.2.2.1, h.2.2.2⟩
theorem GV.list {v : DVal} {t : DSch} (h : GV v t) (h6 : t.kind = 6) : GList v t := by
  obtain ⟨b1, b2, b3, b4⟩ := here_parts h.here_
  have hk : v.kind = 6 := h.kind.trans h6
  obtain ⟨n1, n2⟩ := (idOk_iff _).1 b4
  unfold bad1 at b1
  unfold bad2 at b2
  refine ⟨hk, List.eq_nil_of_length_eq_zero (by omega), n1, n2, by omega, by omega, fun p hp => ?_⟩
  obtain ⟨i, hi, rfl⟩ := List.getElem_of_mem hp
  have := h.part hi
  rwa [atF, if_pos h6] at this
theorem GV.ofList {v : DVal} {t : DSch} (h : GV v t) (ht : RS t) (h6 : t.kind = 6) {is : List Nat} {ps : List DVal} (hn : is.Nodup) (h0 : 0 ∉ is) (h12 : is.length ≤ 12) (hl : ps.length = is.length) (hp : ∀ p ∈ ps, GV p (t.parts.getD 0 default)) : GV (v.ofList is ps) t := by
  obtain ⟨b1, b2, b3, b4⟩ := here_parts h.here_
  have hk : v.kind = 6 := h.kind.trans h6
  have hnn := (h.list h6).names
  have h1 := ht.here.2 h6
  refine .mk (here_of ⟨?_, ?_, b3, (idOk_iff _).2 ⟨hn, h0⟩⟩) h.head (fun i hi => by rw [atF, if_pos h6]; omega) fun i hi => ?_
  · show ¬ bad1 v.kind v.n v.s.length v.names.length is.length
    unfold bad1 at b1 ⊢
    omega
  · show ¬ bad2 v.kind v.n v.s.length v.names.length is.length ps.length (nameB v.s)
    unfold bad2 at b2 ⊢
    rw [hnn] at b2 ⊢
    simp only [List.length_nil] at b2 ⊢
    omega
  · rw [atF, if_pos h6]
    exact hp _ (List.getElem_mem hi)
theorem perm_ins {α : Type} (l : List α) (x : α) (k : Nat) : (l.take k ++ [x] ++ l.drop k).Perm (x :: l) := by
  have h := List.perm_middle (a := x) (l₁ := l.take k) (l₂ := l.drop k)
  rw [List.take_append_drop] at h
  simpa using h
theorem sub_del {α : Type} (l : List α) (k : Nat) : (l.take k ++ l.drop (k + 1)).Sublist l := by
  rw [← List.eraseIdx_eq_take_drop_succ]
  exact List.eraseIdx_sublist l k
theorem notMem_del {l : List Nat} (h : l.Nodup) {k : Nat} (hk : k < l.length) : l[k] ∉ l.take k ++ l.drop (k + 1) := by
  have e : l = l.take k ++ l[k] :: l.drop (k + 1) := by rw [← List.drop_eq_getElem_cons hk, List.take_append_drop]
  have hp := List.perm_middle (a := l[k]) (l₁ := l.take k) (l₂ := l.drop (k + 1))
  rw [← e] at hp
  exact (List.nodup_cons.1 (hp.nodup_iff.1 h)).1
theorem GV.pl {v x : DVal} {t : DSch} (h : GV v t) (ht : RS t) (h6 : t.kind = 6) {id after : Nat} (hid : id ∉ v.ids) (h0 : id ≠ 0) (h12 : v.ids.length < 12) (hx : GV x (t.parts.getD 0 default)) : GV (plV v id after x) t := by
  have hg := h.list h6
  have hp := perm_ins v.ids id (plK v after)
  refine h.ofList ht h6 (hp.nodup_iff.2 (List.nodup_cons.2 ⟨hid, hg.nodup⟩)) (fun hm => ?_) (by rw [ins_len _ _ (plK_le v after)]; omega) (by rw [ins_len _ _ (plK_le v after), ins_len _ _ (by rw [hg.len]; exact plK_le v after), hg.len]) fun p hpm => ?_
  · rcases List.mem_cons.1 (hp.mem_iff.1 hm) with e | e
    · exact h0 e.symm
    · exact hg.zero e
  · rcases List.mem_cons.1 ((perm_ins v.parts x (plK v after)).mem_iff.1 hpm) with e | e
    · rw [e]; exact hx
    · exact hg.parts p e
theorem GV.tk {v : DVal} {t : DSch} (h : GV v t) (ht : RS t) (h6 : t.kind = 6) {k : Nat} (hk : k < v.ids.length) : GV (tkV v k) t := by
  have hg := h.list h6
  have hs := sub_del v.ids k
  refine h.ofList ht h6 (hs.nodup hg.nodup) (fun hm => hg.zero (hs.subset hm)) (by have := hs.length_le; have := hg.most; omega) (by rw [del_len _ hk, del_len _ (by rw [hg.len]; exact hk), hg.len]) fun p hpm => hg.parts p ((sub_del v.parts k).subset hpm)
/-- What an operation makes of a list. -/
theorem GV.ls {o : DOp} {v : DVal} {t : DSch} (h : GV v t) (ht : RS t) (h6 : t.kind = 6) (hi : o.kind = 2 → o.id ≠ 0 ∧ GV o.val (t.parts.getD 0 default)) : GV (lsV o v) t := by
  have hg := h.list h6
  unfold lsV
  split
  · rename_i k2
    split
    · rename_i hc
      exact h.pl ht h6 hc.1 (hi k2).1 hc.2 (hi k2).2
    · exact h
  · split
    · exact h
    · rename_i hm
      have hm : o.id ∈ v.ids := Classical.not_not.1 hm
      have hk := ix_lt hm
      have hix : v.ids[ixN v.ids o.id] = o.id := by
        have := List.getElem_idxOf (x := o.id) (xs := v.ids) hk
        exact this
      split
      · have hpl : ixN v.ids o.id < v.parts.length := by rw [hg.len]; exact hk
        have hl := del_len v.ids hk
        have hmo := hg.most
        refine (h.tk ht h6 hk).pl ht h6 ?_ (fun e => hg.zero (e ▸ hm)) ?_ ?_
        · have := notMem_del hg.nodup hk
          rw [hix] at this
          exact this
        · have hl' : (tkV v (ixN v.ids o.id)).ids.length = v.ids.length - 1 := hl
          rw [hl']; omega
        · rw [show elK o v = ixN v.ids o.id from rfl, getD_at hpl]
          exact hg.parts _ (List.getElem_mem hpl)
      · exact h.tk ht h6 hk
end Go.Proofs.YtjjhjhjphhpeiaaGreatDoor

namespace Go.Proofs.YtjjhjhjphhpeiaaGreatDoor
open Go.RowKit
set_option linter.unusedSimpArgs false
set_option linter.unusedVariables false
/-- What is asked of an operation that came in. -/
structure OkO (o : DOp) : Prop where
  path : o.path.length ≤ 1000
  names : ∀ p ∈ o.path, p.1.length ≤ maxLen
  val : okV o.val
  wt : o.val.weight ≤ 1000
  kind : I64 o.kind
  id : U64 (o.id : Int)
  after : U64 (o.after : Int)
noncomputable def rightO (o : DOp) : Bool := rightP o.path &&
  (if o.kind = 1 then decide (o.id = 0) && decide (o.after = 0) && rightV 5 o.val
   else if o.kind = 2 then decide (o.id ≠ 0) && decide (o.id ≠ o.after) && rightV 5 o.val
   else if o.kind = 3 then decide (o.id ≠ 0) && decide (o.after = 0) && eqB o.val zeroV
   else if o.kind = 4 then decide (o.id ≠ 0) && decide (o.id ≠ o.after) && eqB o.val zeroV
   else false)
theorem zero_wt : zeroV.weight = 1 := by simp [zeroV, DVal.weight_eq, DVal.names, DVal.ids, DVal.parts, DVal.weights]
theorem u64_dec (a b : Nat) : ((a : Int) == (b : Int)) = decide (a = b) := by rw [Bool.eq_iff_iff]; simp; omega
theorem u64_dne (a b : Nat) : ((a : Int) != (b : Int)) = decide (a ≠ b) := by
  have : ((a : Int) != (b : Int)) = !((a : Int) == (b : Int)) := rfl
  rw [this, u64_dec]; simp
theorem u64_d0 (a : Nat) : ((a : Int) == 0) = decide (a = 0) := u64_dec a 0
theorem u64_n0 (a : Nat) : ((a : Int) != 0) = decide (a ≠ 0) := u64_dne a 0
/-- Does an operation fit a type? -/
def fitO (o : DOp) (t : DSch) : Bool := if o.kind = 1 then fitsTop o.val t else if t.kind = 6 then (if o.kind = 2 then fitsTop o.val (t.parts.getD 0 default) else true) else false
/-- Why an operation can't be done: an error's number. -/
noncomputable def chkO (o : DOp) (s : DSch) : Nat := if rightO o = true ∧ rightS 5 s = true then (match typS o.path s with | some t => if fitO o t = true then 0 else 6 | none => 6) else 1
def errO (c : Nat) : D := if c = 0 then .v .nilIface else .ifc 62 (.v (.int .i64 (c : Int)))
theorem errO_closed (c : Nat) : (errO c).closed := by unfold errO; split <;> simp [D.closed, D.all]
end Go.Proofs.YtjjhjhjphhpeiaaGreatDoor

namespace Go.Proofs.YtjjhjhjphhpeiaaGreatDoor
open Go.RowKit
set_option linter.unusedSimpArgs false
set_option linter.unusedVariables false
/-- What is put into the place. -/
def mdV (o : DOp) (x : DVal) : DVal := if o.kind = 1 then o.val else lsV o x
def apV (o : DOp) (v : DVal) : DVal := match getV o.path v with
  | some x => chV (fun _ => mdV o x) o.path v
  | none => v
end Go.Proofs.YtjjhjhjphhpeiaaGreatDoor

namespace Go.Proofs.YtjjhjhjphhpeiaaGreatDoor
open Go.RowKit
theorem parts_wp (v : DVal) (ps : List DVal) : (v.withParts ps).parts = ps ∧ (v.withParts ps).kind = v.kind ∧ (v.withParts ps).names = v.names ∧ (v.withParts ps).ids = v.ids := ⟨rfl, rfl, rfl, rfl⟩
theorem place_wp (v : DVal) (ps : List DVal) (h : ps.length = v.parts.length) (p : DStp) : placeOf (v.withParts ps) p = placeOf v p := by
  have hw : wholeB (v.withParts ps) = wholeB v := by
    unfold wholeB
    rw [(parts_wp v ps).1, (parts_wp v ps).2.1, (parts_wp v ps).2.2.1, h]
  unfold placeOf
  rw [hw, (parts_wp v ps).2.1, (parts_wp v ps).2.2.1, (parts_wp v ps).2.2.2]
theorem getV_ok : ∀ (p : List DStp) {v u : DVal}, okV v → getV p v = some u → okV u
  | [], v, u, h, e => by injection e with e; exact e ▸ h
  | p :: ps, v, u, h, e => by
    rw [getV_cons] at e
    split at e
    · rename_i hin
      have hpl : plN v p < v.parts.length := by have := hin.1; have := hin.2; unfold plN; omega
      exact getV_ok ps (((okV_eq v).1 h).2.2.2.2.2.2.2.2 _ (by rw [getD_at hpl]; exact List.getElem_mem _)) e
    · cases e
end Go.Proofs.YtjjhjhjphhpeiaaGreatDoor

namespace Go.Proofs.YtjjhjhjphhpeiaaGreatDoor
open Go.RowKit
set_option linter.unusedSimpArgs false
set_option linter.unusedVariables false
theorem chkO_zero {o : DOp} {s : DSch} (h : chkO o s = 0) : rightO o = true ∧ rightS 5 s = true ∧ ∃ t, typS o.path s = some t ∧ fitO o t = true := by
  unfold chkO at h
  split at h
  · rename_i h1
    split at h
    · rename_i t ht
      split at h
      · rename_i hf
        exact ⟨h1.1, h1.2, t, ht, hf⟩
      · omega
    · omega
  · omega
theorem rightO_id {o : DOp} (h : rightO o = true) (h2 : o.kind = 2) : o.id ≠ 0 := by
  unfold rightO at h
  rw [if_neg (by omega), if_pos h2] at h
  simp only [Bool.and_eq_true, decide_eq_true_eq] at h
  exact h.2.1.1
theorem fitO_made {o : DOp} {t : DSch} {x : DVal} (hr : rightO o = true) (hf : fitO o t = true) (hx : GV x t) (ht : RS t) : GV (mdV o x) t ∧ (o.kind ≠ 1 → t.kind = 6) := by
  unfold fitO at hf
  unfold mdV
  by_cases k1 : o.kind = 1
  · rw [if_pos k1] at hf ⊢
    exact ⟨(fitsTop_iff.1 hf).2, fun h => absurd k1 h⟩
  · rw [if_neg k1] at hf ⊢
    split at hf
    · rename_i t6
      refine ⟨hx.ls ht t6 fun k2 => ⟨rightO_id hr k2, ?_⟩, fun _ => t6⟩
      rw [if_pos k2] at hf
      exact (fitsTop_iff.1 hf).2
    · cases hf
/-- An operation that fits makes a value that fits of one that does. -/
theorem apV_fits {o : DOp} {s : DSch} {v : DVal} (h : GV v s) (hc : chkO o s = 0) : GV (apV o v) s := by
  obtain ⟨hr, hs, t, ht, hf⟩ := chkO_zero hc
  obtain ⟨hS, _⟩ := RS.of_top hs
  unfold apV
  cases hg : getV o.path v with
  | none => exact h
  | some x =>
    obtain ⟨g1, g2, _⟩ := GV.get o.path h hS ht hg
    exact GV.put o.path h hS ht hg (fitO_made hr hf g1 g2).1
theorem apV_list {o : DOp} {s : DSch} {v x : DVal} (h : GV v s) (hc : chkO o s = 0) (hg : getV o.path v = some x) (k1 : o.kind ≠ 1) : x.kind = 6 ∧ x.parts.length = x.ids.length ∧ x.ids.length ≤ 12 ∧ x.names.length = 0 := by
  obtain ⟨hr, hs, t, ht, hf⟩ := chkO_zero hc
  obtain ⟨hS, _⟩ := RS.of_top hs
  obtain ⟨g1, g2, _⟩ := GV.get o.path h hS ht hg
  have t6 := (fitO_made hr hf g1 g2).2 k1
  have hl := g1.list t6
  exact ⟨hl.kind, hl.len, hl.most, by rw [hl.names]; rfl⟩
def wtK : Nat → Nat
  | 0 => 0
  | k + 1 => 13 + 12 * wtK k
theorem weights_le (l : List DVal) (m : Nat) (h : ∀ p ∈ l, p.weight ≤ m) : DVal.weights l ≤ l.length * m := by
  induction l with
  | nil => simp [DVal.weights]
  | cons a l ih =>
    have h1 := h a (by simp)
    have h2 := ih fun p hp => h p (by simp [hp])
    simp only [DVal.weights, List.length_cons, Nat.add_mul]
    omega
theorem GV.weight : ∀ (k : Nat) {v : DVal} {s : DSch}, s.depth ≤ k → GV v s → v.weight ≤ wtK k
  | 0, v, s, hk, h => by have := s.depth_pos; omega
  | k + 1, v, s, hk, h => by
    obtain ⟨b1, b2, _, _⟩ := here_parts h.here_
    have hh := h.rv.here
    unfold bad1 at b1
    unfold bad2 at b2
    have hn : v.names.length + v.ids.length ≤ 12 := by
      by_cases h5 : v.kind = 5
      · have := hh.2.1 (by omega); omega
      · have := hh.1 h5; omega
    have h1 := weights_le v.parts (wtK k) fun p hp => by
      obtain ⟨i, hi, rfl⟩ := List.getElem_of_mem hp
      have ha := h.at_ hi
      have hg := h.part hi
      rw [getD_at ha] at hg
      exact GV.weight k (by have := DSch.depth_part (List.getElem_mem ha); omega) hg
    have h2 : v.parts.length * wtK k ≤ 12 * wtK k := Nat.mul_le_mul_right _ (by omega)
    rw [v.weight_eq]
    show _ ≤ 13 + 12 * wtK k
    omega
theorem wtK_mono {a b : Nat} (h : a ≤ b) : wtK a ≤ wtK b := by
  induction b generalizing a with
  | zero => have : a = 0 := by omega
            subst this; exact Nat.le_refl _
  | succ b ih =>
    cases a with
    | zero => exact Nat.zero_le _
    | succ a => have := ih (a := a) (by omega); simp only [wtK]; omega
theorem GV.wt {v : DVal} {s : DSch} (h : GV v s) (hs : rightS 5 s = true) : v.weight ≤ 1000000 := by
  have h1 := GV.weight s.depth (Nat.le_refl _) h
  have h2 := wtK_mono (RS.of_top hs).2
  have h3 : wtK 5 = 294073 := by decide
  omega
theorem okV_parts {v : DVal} (h : okV v) {ps : List DVal} (hl : ps.length ≤ 140737488351232) (hp : ∀ p ∈ ps, okV p) : okV (v.withParts ps) := by
  obtain ⟨o1, o2, o3, o4, o5, o6, o7, o8, o9⟩ := (okV_eq v).1 h
  exact (okV_eq _).2 ⟨o1, o2, o3, o4, o5, o6, o7, hl, hp⟩
theorem chV_ok {y : DVal} (hy : okV y) : ∀ (ps : List DStp) {v : DVal}, okV v → okV (chV (fun _ => y) ps v)
  | [], v, _ => hy
  | p :: ps, v, h => by
    rw [chV]
    split
    · rename_i hin
      obtain ⟨o1, o2, o3, o4, o5, o6, o7, o8, o9⟩ := (okV_eq v).1 h
      have hpl : plN v p < v.parts.length := by have := hin.1; have := hin.2; unfold plN; omega
      refine okV_parts h (by rw [List.length_set]; exact o8) fun q hq => ?_
      rcases List.mem_or_eq_of_mem_set hq with hq | rfl
      · exact o9 q hq
      · rw [getD_at hpl]
        exact chV_ok hy ps (o9 _ (List.getElem_mem hpl))
    · exact h
theorem okV_ofList {v : DVal} (h : okV v) {is : List Nat} {ps : List DVal} (h1 : ∀ i ∈ is, U64 (i : Int)) (h2 : is.length ≤ 140737488351232) (h3 : ps.length ≤ 140737488351232) (h4 : ∀ p ∈ ps, okV p) : okV (v.ofList is ps) := by
  obtain ⟨o1, o2, o3, o4, o5, o6, o7, o8, o9⟩ := (okV_eq v).1 h
  exact (okV_eq _).2 ⟨o1, o2, o3, o4, o5, h1, h2, h3, h4⟩
theorem plV_ok {v x : DVal} (h : okV v) (hx : okV x) {id after : Nat} (hid : U64 (id : Int)) (hl : v.parts.length = v.ids.length) (hn : v.ids.length ≤ 1000000) : okV (plV v id after x) := by
  obtain ⟨o1, o2, o3, o4, o5, o6, o7, o8, o9⟩ := (okV_eq v).1 h
  refine okV_ofList h (fun i hi => ?_) (by rw [ins_len _ _ (plK_le v after)]; omega) (by rw [ins_len _ _ (by rw [hl]; exact plK_le v after)]; omega) fun p hp => ?_
  · rcases List.mem_cons.1 ((perm_ins v.ids id (plK v after)).mem_iff.1 hi) with e | e
    · rw [e]; exact hid
    · exact o6 i e
  · rcases List.mem_cons.1 ((perm_ins v.parts x (plK v after)).mem_iff.1 hp) with e | e
    · rw [e]; exact hx
    · exact o9 p e
theorem tkV_ok {v : DVal} (h : okV v) (k : Nat) : okV (tkV v k) := by
  obtain ⟨o1, o2, o3, o4, o5, o6, o7, o8, o9⟩ := (okV_eq v).1 h
  have s1 := sub_del v.ids k
  have s2 := sub_del v.parts k
  exact okV_ofList h (fun i hi => o6 i (s1.subset hi)) (by have := s1.length_le; omega) (by have := s2.length_le; omega) fun p hp => o9 p (s2.subset hp)
theorem lsV_ok {o : DOp} {v : DVal} (h : okV v) (ho : OkO o) (hl : v.parts.length = v.ids.length) (hn : v.ids.length ≤ 1000000) : okV (lsV o v) := by
  unfold lsV
  split
  · split
    · exact plV_ok h ho.val ho.id hl hn
    · exact h
  · split
    · exact h
    · rename_i hm
      have hm : o.id ∈ v.ids := Classical.not_not.1 hm
      have hk : elK o v < v.ids.length := ix_lt hm
      split
      · have hpl : elK o v < v.parts.length := by omega
        refine plV_ok (tkV_ok h _) ?_ ho.id (by rw [tkV_plen hpl, tkV_ilen hk, hl]) (by rw [tkV_ilen hk]; omega)
        rw [getD_at hpl]
        exact ((okV_eq v).1 h).2.2.2.2.2.2.2.2 _ (List.getElem_mem hpl)
      · exact tkV_ok h _
theorem apV_ok {o : DOp} {s : DSch} {v : DVal} (h : GV v s) (hc : chkO o s = 0) (hok : okV v) (ho : OkO o) : okV (apV o v) := by
  unfold apV
  cases hg : getV o.path v with
  | none => exact hok
  | some x =>
    refine chV_ok ?_ o.path hok
    unfold mdV
    split
    · exact ho.val
    · rename_i k1
      obtain ⟨_, h2, h3, _⟩ := apV_list h hc hg k1
      exact lsV_ok (getV_ok _ hok hg) ho h2 (by omega)
noncomputable def apS (s : DSch) (v : DVal) (o : DOp) : DVal := if chkO o s = 0 then apV o v else v
/-- What operations make of a value. -/
noncomputable def applyV (s : DSch) (v : DVal) (l : List DOp) : DVal := if fitsTop v s = true then l.foldl (apS s) v else v
theorem apS_fits {s : DSch} {v : DVal} {o : DOp} (h : GV v s) : GV (apS s v o) s := by
  unfold apS
  split
  · rename_i hc; exact apV_fits h hc
  · exact h
theorem apS_ok {s : DSch} {v : DVal} {o : DOp} (h : GV v s) (hok : okV v) (ho : OkO o) : okV (apS s v o) := by
  unfold apS
  split
  · rename_i hc; exact apV_ok h hc hok ho
  · exact hok
theorem fold_fits {s : DSch} : ∀ (l : List DOp) {v : DVal}, GV v s → okV v → (∀ o ∈ l, OkO o) → GV (l.foldl (apS s) v) s ∧ okV (l.foldl (apS s) v)
  | [], v, h, hok, _ => ⟨h, hok⟩
  | o :: l, v, h, hok, ho => fold_fits l (apS_fits h) (apS_ok h hok (ho o (by simp))) fun q hq => ho q (by simp [hq])
end Go.Proofs.YtjjhjhjphhpeiaaGreatDoor

namespace Go.Proofs.YtjjhjhjphhpeiaaGreatDoor
open Go.RowKit
set_option linter.unusedSimpArgs false
set_option linter.unusedVariables false
instance : Inhabited DOp := ⟨⟨0, [], 0, 0, default⟩⟩
end Go.Proofs.YtjjhjhjphhpeiaaGreatDoor

namespace Go.Proofs.YtjjhjhjphhpeiaaGreatDoor
open Go.RowKit
set_option linter.unusedSimpArgs false
set_option linter.unusedVariables false
theorem uHas_d (own : Own) (l : List Nat) (x : Nat) (hn : l.length ≤ 140737488351232) : DPure Tryz.prog 107 [.sl own (l.map u64D), .v (uv x)] (.v (.bool (decide (x ∈ l)))) :=
  dpure_of_gives (fun _ _ => by kernel_rfl) fun w η X vs hr => by
    simp only [RepL] at hr
    obtain ⟨y, ys, rfl, h1, z, zs, rfl, h2, rfl⟩ := hr
    obtain ⟨A, c, rfl, hc, hf⟩ := scalars_of_rep uv h1
    simp only [Rep] at h2
    subst h2
    exact (uContains_calls l x A c w hf hn).mono fun e w' ⟨he, hw⟩ => ⟨he, hw ▸ Below.refl _ _⟩
theorem closed_path (l : List DStp) : (D.sl .no (l.map encP)).closed := by
  simp only [D.closed, D.all, Own.all, true_and]
  refine allL_iff.2 fun d hd => ?_
  obtain ⟨p, _, rfl⟩ := List.mem_map.1 hd
  simp [encP, D.all, allL, strD, u64D]
set_option maxRecDepth 200000 in
set_option maxHeartbeats 4000000 in
theorem behind_d (own : Own) (l : List DStp) (p : DStp) (hl : l.length ≤ 1000000) : DPure Tryz.prog 64 [.sl own (l.map encP), encP p] (.sl .no ((l ++ [p]).map encP)) := by
  refine dpure_of_dwp mixed Tryz.func64 rfl (fun _ _ => by kernel_rfl) (rs := [.tmp 4]) rfl (by kernel_rfl) (closed_path _) (fun S hS => ?_)
  (simp (disch := first | decide | omega | (simp only [nx]; first | done | omega)) only [go_sem, Nat.reduceMul]; (repeat (with_reducible refine And.intro (by first | omega | assumption | rfl) ?_)))
  refine ddraw_mk 4 (by kernel_rfl) ?_
  (simp (disch := first | decide | omega | (simp only [nx]; first | done | omega)) only [go_sem, Nat.reduceMul]; (repeat (with_reducible refine And.intro (by first | omega | assumption | rfl) ?_)))
  refine dqgo_mk (clip_d own l (by omega)) ?_
  (simp (disch := first | decide | omega | (simp only [nx]; first | done | omega)) only [go_sem, Nat.reduceMul]; (repeat (with_reducible refine And.intro (by first | omega | assumption | rfl) ?_)))
  refine dapp_row ?_
  have he : elT Tryz.prog 41 = some 79 := by kernel_rfl
  have hb : bytesOf Tryz.prog 79 = 24 := by kernel_rfl
  have hz : zeroT Tryz.prog 79 = true := by kernel_rfl
  simp only [dappend, he, hz, hb, List.length_map, true_and, Option.isSome_some, List.length_cons, List.length_nil]
  refine ⟨wPs l, fun d hd => wPs [p] d (by simpa using hd), by omega, by omega, ?_⟩
  (simp (disch := first | decide | omega | (simp only [nx]; first | done | omega)) only [go_sem, Nat.reduceMul]; (repeat (with_reducible refine And.intro (by first | omega | assumption | rfl) ?_)))
  refine ⟨?_, (by (repeat' first | assumption | exact St.Sub.refl _ | exact RowOk.sub (by assumption) (by assumption) | refine St.Sub.trans ?_ (RowOk.sub (by assumption) (by assumption)) | refine St.Sub.add ?_ ?_ _ | refine St.Sub.set ?_ ?_ ?_ _ | refine St.Sub.keep ?_ ?_ | refine St.WF.leave ?_ _ | refine St.WF.add ?_ _ | refine St.WF.set ?_ ?_ _ | refine St.WF.grow ?_ _ _ _ | refine St.WF.keep ?_ ?_ | (first | omega | (simp only [RowOk.lo, nx]; first | done | omega))))⟩
  rw [show l.map encP ++ [encP p] = (l ++ [p]).map encP by simp]
  simp only [D.frz, frz_mapPk]
/-- A slice of numbers that grows in a variable; whose variables lie behind those of a state. -/
def NowAt (lo : Nat) (l : List Nat) (d : D) (T : St) : Prop := (l = [] ∧ d = .sl .full []) ∨ ∃ k c zs, d = .win k 0 l.length c ∧ T.ob k = some (ownOb 42 (l.map u64D) zs c) ∧ (flat (l.map u64D) ++ zs).length = c * 1 ∧ lo ≤ k ∧ k < T.next ∧ 0 < c
/-- All but this slice's variable stays. -/
structure Gw (lo : Nat) (T T' : St) : Prop where
  next : T.next ≤ T'.next
  low : ∀ j o, j < lo → T.ob j = some o → T'.ob j = some o
  row : ∀ j t n, T.ob j = some (.row t n) → T'.ob j = some (.row t n)
theorem Gw.trans {lo : Nat} {A B C : St} (h : Gw lo A B) (g : Gw lo B C) : Gw lo A C := ⟨Nat.le_trans h.next g.next, fun j o hj e => g.low j o hj (h.low j o hj e), fun j t n e => g.row j t n (h.row j t n e)⟩
theorem NowAt.fr {lo k : Nat} {l : List Nat} {d : D} {S T : St} (h : NowAt lo l d S) (hk : k < lo) (hf : MFr k S T) : NowAt lo l d T := by
  rcases h with h | ⟨j, c, zs, h1, h2, h3, h4, h5, h6⟩
  · exact .inl h
  · refine .inr ⟨j, c, zs, h1, ?_, h3, h4, Nat.lt_of_lt_of_le h5 hf.next, h6⟩
    rw [ownOb_box h6] at h2 ⊢
    exact hf.box j _ _ (by omega) h2
theorem wUl (l : List Nat) : ∀ d ∈ l.map u64D, d.width = 1 := fun d hd => by obtain ⟨x, _, rfl⟩ := List.mem_map.1 hd; rfl
theorem MAt.gw {lo k : Nat} {l : List DOp} {T T' : St} (h : MAt k l T) (hk : k < lo) (hg : Gw lo T T') : MAt k l T' := by
  obtain ⟨own, h1, h2⟩ := h
  refine ⟨own, hg.low _ _ hk h1, ?_⟩
  rcases h2 with h2 | ⟨g, h2, h3, h4⟩
  · exact .inl h2
  · exact .inr ⟨g, h2, h3, hg.row _ _ _ h4⟩
theorem MFr.gw {k : Nat} {S T T' : St} (h : MFr k S T) (hS : S.WF) (hg : Gw S.next T T') : MFr k S T' := ⟨Nat.le_trans h.next hg.next, fun j o hj e => hg.low j o (hS.lt e) (h.ob j o hj e)⟩
theorem gw_drop {lo k : Nat} {T : St} {o : Ob} {t : TypeId} {cs : List D} (hT : T.WF) (hk : T.ob k = some (.box t cs)) (hlo : lo ≤ k) : Gw lo T ((T.drop k).add o) := by
  have hne : ∀ j o', T.ob j = some o' → j ≠ k → ((T.drop k).add o).ob j = some o' := fun j o' e hj => by
    have := hT.lt e
    show (if j = (T.drop k).next then _ else (T.drop k).ob j) = _
    rw [if_neg (by show j ≠ T.next; omega)]
    show (if j = k then _ else T.ob j) = _
    rw [if_neg hj, e]
  refine ⟨by show T.next ≤ T.next + 1; omega, fun j o' hj e => hne j o' e (by omega), fun j t' n e => hne j _ e fun h => ?_⟩
  rw [h, hk] at e; cases e
theorem gw_set {lo k : Nat} {T : St} {o : Ob} {t : TypeId} {cs : List D} (hk : T.ob k = some (.box t cs)) (hlo : lo ≤ k) : Gw lo T (T.set k o) := by
  have hne : ∀ j o', T.ob j = some o' → j ≠ k → (T.set k o).ob j = some o' := fun j o' e hj => by
    show (if j = k then _ else T.ob j) = _
    rw [if_neg hj, e]
  refine ⟨Nat.le_refl _, fun j o' hj e => hne j o' e (by omega), fun j t' n e => hne j _ e fun h => ?_⟩
  rw [h, hk] at e; cases e
theorem gw_add {lo : Nat} {T : St} {o : Ob} (hT : T.WF) : Gw lo T (T.add o) :=
  ⟨by show T.next ≤ T.next + 1; omega, fun j o' _ e => keep_add hT _ j o' e, fun j t n e => keep_add hT _ j _ e⟩
/-- One number more. -/
theorem now_app {lo : Nat} {l : List Nat} {d : D} {T : St} {x : Nat} {o2 : Own} {ty : TypeId} {K : D → St → Prop} (h : NowAt lo l d T) (hT : T.WF) (hlo : lo ≤ T.next) (hl : l.length ≤ 1000000)
    (hK : ∀ d' T', NowAt lo (l ++ [x]) d' T' → Gw lo T T' → T'.WF → K d' T') : dapp Tryz.prog T 26 26 ty d (.sl o2 [u64D x]) K := by
  have heT : elT Tryz.prog 26 = some 42 := by kernel_rfl
  have heS : (elT Tryz.prog 26).isSome = true := by rw [heT]; rfl
  have hsz : szOf Tryz.prog 42 = 1 := by kernel_rfl
  have hby : bytesOf Tryz.prog 42 = 8 := by kernel_rfl
  have hzT : zeroT Tryz.prog 42 = true := by kernel_rfl
  have hzO : zeroOk Tryz.prog 42 = true := by kernel_rfl
  have hO : OwnD Tryz.prog T 42 (l.map u64D) d := by
    rcases h with ⟨rfl, rfl⟩ | ⟨k, c, zs, h1, h2, h3, h4, h5, h6⟩
    · exact .inl ⟨rfl, rfl⟩
    · exact .inr ⟨k, c, zs, by rw [List.length_map]; exact h1, h2, by rw [hsz]; exact h3, h5⟩
  refine dapp_ownD heT heS hzT hzO hO (by rw [hsz]; exact wUl l) (es2 := [u64D x]) (by rw [hsz]; exact wUl [x]) (by simp; omega) (by rw [hby]; simp; omega) fun c' zs' h2 => ?_
  rw [hsz] at h2
  have hc' : 0 < c' := by
    rw [List.length_append, flat_append, List.length_append] at h2
    have : (flat [u64D x]).length = 1 := rfl
    omega
  have hmap : l.map u64D ++ [u64D x] = (l ++ [x]).map u64D := by simp
  rw [hmap] at h2 ⊢
  have hln : (l.map u64D).length + [u64D x].length = (l ++ [x]).length := by simp
  rw [hln]
  have hwf : (T.left d).WF := by
    rcases h with ⟨_, rfl⟩ | ⟨k, c, zs, rfl, _⟩
    · exact hT
    · intro j hj
      show (if j = k then none else T.ob j) = none
      split
      · rfl
      · exact hT j hj
  have hnx : (T.left d).next = T.next := by rcases h with ⟨_, rfl⟩ | ⟨k, c, zs, rfl, _⟩ <;> rfl
  refine hK _ _ (.inr ⟨T.next, c', zs', rfl, ?_, h2, hlo, by rw [add_next, hnx]; omega, hc'⟩) ?_ (hwf.add _)
  · rw [add_ob, if_pos hnx.symm]
  · rcases h with ⟨_, rfl⟩ | ⟨k, c, zs, rfl, h2, h3, h4, h5, h6⟩
    · exact gw_add hT
    · rw [ownOb_box h6] at h2
      exact gw_drop hT h2 h4
end Go.Proofs.YtjjhjhjphhpeiaaGreatDoor

namespace Go.Proofs.YtjjhjhjphhpeiaaGreatDoor
open Go.RowKit
set_option linter.unusedSimpArgs false
set_option linter.unusedVariables false
theorem map_ins (l : List Nat) (x i : Nat) : (l.map u64D).take i ++ [u64D x] ++ (l.map u64D).drop i = (l.take i ++ [x] ++ l.drop i).map u64D := by simp [List.map_take, List.map_drop]
theorem map_del (l : List Nat) (k : Nat) : (l.map u64D).take k ++ (l.map u64D).drop (k + 1) = (l.take k ++ l.drop (k + 1)).map u64D := by simp [List.map_take, List.map_drop]
set_option maxRecDepth 200000 in
set_option maxHeartbeats 4000000 in
theorem now_ins {lo i x : Nat} {l : List Nat} {d : D} {T : St} {o : Own} (h : NowAt lo l d T) (hT : T.WF) (hlo : lo ≤ T.next) (hi : i ≤ l.length) (hl : l.length ≤ 1000000) :
    DCalls Tryz.prog 109 [d, .v (.int .i64 i), .sl o [u64D x]] T fun d' T' => NowAt lo (l.take i ++ [x] ++ l.drop i) d' T' ∧ Gw lo T T' := by
  rcases h with ⟨rfl, rfl⟩ | ⟨k, c, zs, rfl, h2, h3, h4, h5, h6⟩
  · have hi0 : i = 0 := by simpa using hi
    subst hi0
    have h10 : (((1 : Nat) : Int) == 0) = false := by decide
    have h00 : (((0 : Nat) : Int) == ((0 : Nat) : Int)) = true := by decide
    refine dcalls_inline mixed Tryz.func109 rfl (fun _ _ => by kernel_rfl) (rs := [.tmp 6]) rfl (by kernel_rfl) (fun hS => ?_)
    (simp (disch := first | decide | omega | (simp only [nx]; first | done | omega)) only [go_sem, Nat.reduceMul, h10, h00]; (repeat (with_reducible refine And.intro (by first | omega | assumption | rfl) ?_)))
    refine now_app (l := []) (.inl ⟨rfl, rfl⟩) hT hlo (by simp) fun d' T' g1 g2 _ => ?_
    (simp (disch := first | decide | omega | (simp only [nx]; first | done | omega)) only [go_sem, Nat.reduceMul]; (repeat (with_reducible refine And.intro (by first | omega | assumption | rfl) ?_)))
    exact ⟨g1, g2⟩
  · refine ins_u64 (es := l.map u64D) h2 h3 (wUl l) rfl (by rw [List.length_map]; exact hi) (by rw [List.length_map]; omega) h5 (by rw [List.length_map]) fun c' zs' g1 g2 => ?_
    rw [map_ins] at g2 ⊢
    rw [List.length_map] at g1
    have hlen : (l.take i ++ [x] ++ l.drop i).length = l.length + 1 := ins_len l x hi
    rw [ownOb_box h6] at h2
    refine ⟨.inr ⟨T.next, c', zs', by rw [hlen], ?_, g2, hlo, by show T.next < T.next + 1; omega, by omega⟩, gw_drop hT h2 h4⟩
    show (if T.next = T.next then _ else _) = _
    rw [if_pos rfl]
theorem now_del {lo k : Nat} {l : List Nat} {d : D} {T : St} (h : NowAt lo l d T) (hT : T.WF) (hk : k < l.length) (hl : l.length ≤ 1000000) :
    DCalls Tryz.prog 111 [d, .v (.int .i64 k), .v (.int .i64 (k + 1 : Nat))] T fun d' T' => NowAt lo (l.take k ++ l.drop (k + 1)) d' T' ∧ Gw lo T T' ∧ T'.WF := by
  rcases h with ⟨rfl, rfl⟩ | ⟨j, c, zs, rfl, h2, h3, h4, h5, h6⟩
  · cases hk
  · refine del_u64 (es := l.map u64D) h2 h3 (wUl l) (by rw [List.length_map]; exact hk) (by rw [List.length_map]; omega) (by rw [List.length_map]) fun zs' g1 => ?_
    rw [map_del] at g1 ⊢
    have hlen : (l.take k ++ l.drop (k + 1)).length = l.length - 1 := by simp only [List.length_append, List.length_take, List.length_drop]; omega
    have h2' := h2
    rw [ownOb_box h6] at h2'
    refine ⟨.inr ⟨j, c, zs', by rw [hlen], ?_, g1, h4, h5, h6⟩, gw_set h2' h4, hT.set h5 _⟩
    show (if j = j then _ else _) = _
    rw [if_pos rfl]
theorem now_ix {lo x : Nat} {l : List Nat} {d : D} {T : St} (h : NowAt lo l d T) (hx : x ∈ l) (hl : l.length ≤ 1000000) :
    DCalls Tryz.prog 110 [d, .v (uv x)] T fun d' T' => d' = .v (.int .i64 ((ixN l x : Nat) : Int)) ∧ T' = T := by
  rcases h with ⟨rfl, rfl⟩ | ⟨j, c, zs, rfl, h2, h3, h4, h5, h6⟩
  · cases hx
  · have hc := ownOb_len (wUl l) (by omega) h3
    rw [List.length_map] at hc
    refine uIndex_w l x (by omega) h2 hc ⟨?_, rfl⟩
    rw [ixI, if_pos hx]
end Go.Proofs.YtjjhjhjphhpeiaaGreatDoor

namespace Go.Proofs.YtjjhjhjphhpeiaaGreatDoor
open Go.RowKit
set_option linter.unusedSimpArgs false
attribute [go_sem] sv_beq
set_option maxRecDepth 200000 in
set_option maxHeartbeats 4000000 in
theorem refWholeV_d (v : DVal) : DPure Tryz.prog 119 [encV v] (.v (.bool (wholeB v))) := by
  refine dpure_of_dwp mixed Tryz.func119 rfl (fun _ _ => by kernel_rfl) (rs := [.tmp 2]) rfl (by kernel_rfl) trivial (fun S hS => ?_)
  by_cases h5 : v.kind = 5
  · have b5 : (v.kind == 5) = true := by simp [h5]
    (simp (disch := first | decide | omega | (simp only [nx]; first | done | omega)) only [go_sem, Nat.reduceMul, encV_eq v, b5]; (repeat (with_reducible refine And.intro (by first | omega | assumption | rfl) ?_)))
    refine ⟨?_, (by (repeat' first | assumption | exact St.Sub.refl _ | exact RowOk.sub (by assumption) (by assumption) | refine St.Sub.trans ?_ (RowOk.sub (by assumption) (by assumption)) | refine St.Sub.add ?_ ?_ _ | refine St.Sub.set ?_ ?_ ?_ _ | refine St.Sub.keep ?_ ?_ | refine St.WF.leave ?_ _ | refine St.WF.add ?_ _ | refine St.WF.set ?_ ?_ _ | refine St.WF.grow ?_ _ _ _ | refine St.WF.keep ?_ ?_ | (first | omega | (simp only [RowOk.lo, nx]; first | done | omega))))⟩
    simp only [D.frz, wholeB, decide_eq_true h5, Bool.true_and]
    congr 3
    exact propext ⟨fun h => by omega, fun h => by omega⟩
  · have b5 : (v.kind == 5) = false := by simp [h5]
    (simp (disch := first | decide | omega | (simp only [nx]; first | done | omega)) only [go_sem, Nat.reduceMul, encV_eq v, b5]; (repeat (with_reducible refine And.intro (by first | omega | assumption | rfl) ?_)))
    refine ⟨?_, (by (repeat' first | assumption | exact St.Sub.refl _ | exact RowOk.sub (by assumption) (by assumption) | refine St.Sub.trans ?_ (RowOk.sub (by assumption) (by assumption)) | refine St.Sub.add ?_ ?_ _ | refine St.Sub.set ?_ ?_ ?_ _ | refine St.Sub.keep ?_ ?_ | refine St.WF.leave ?_ _ | refine St.WF.add ?_ _ | refine St.WF.set ?_ ?_ _ | refine St.WF.grow ?_ _ _ _ | refine St.WF.keep ?_ ?_ | (first | omega | (simp only [RowOk.lo, nx]; first | done | omega))))⟩
    simp only [D.frz, wholeB, decide_eq_false h5, Bool.false_and]
set_option maxRecDepth 200000 in
set_option maxHeartbeats 4000000 in
theorem refFieldI_d (v : DVal) (x : Str) (hw : v.weight ≤ 1000000) : DPure Tryz.prog 118 [encV v, .v (sv x)] (.v (.int .i64 (ixI v.names x))) := by
  have hww := v.weight_eq
  refine dpure_of_dwp mixed Tryz.func118 rfl (fun _ _ => by kernel_rfl) (rs := [.tmp 4]) rfl (by kernel_rfl) trivial (fun S hS => ?_)
  (simp (disch := first | decide | omega | (simp only [nx]; first | done | omega)) only [go_sem, Nat.reduceMul, encV_eq v]; (repeat (with_reducible refine And.intro (by first | omega | assumption | rfl) ?_)))
  (refine dloop_st (fun t => List.contains [4, 5, 6, 7, 8, 9, 10, 11, 12, 13, 14, 15, 16, 17, 18, 19, 20] t) (by kernel_rfl) ?_ (v.names.length) (fun i f => i ≤ v.names.length ∧ f 5 = .v (.int .i64 (i : Nat)) ∧ (∀ j (hj : j < v.names.length), j < i → v.names[j] ≠ x)) ?_ ?_; (exact (by (repeat' first | assumption | refine St.WF.leave ?_ _ | refine St.WF.add ?_ _ | refine St.WF.set ?_ ?_ _ | refine St.WF.grow ?_ _ _ _ | refine St.WF.keep ?_ ?_ | (first | omega | (simp only [RowOk.lo, nx]; first | done | omega))))); (exact ⟨(by omega), (by (first | (simp (disch := first | decide | omega | (simp only [nx]; first | done | omega)) only [go_sem, Nat.reduceMul]; first | done | rfl) | rfl)), (fun j _ hj => by omega)⟩); intro i g tn hn hT hg hI; obtain ⟨le, q5, hno⟩ := hI; have q1 := hg 1 rfl; have q2 := hg 2 rfl; simp (disch := first | decide | omega | (simp only [nx]; first | done | omega)) only [go_sem, Nat.reduceMul] at q1 q2; clear hg; have hn' := hn; try simp only [add_next, set_next, grow_next, leave_next, drop_next] at hn')
  by_cases hlt : i < v.names.length
  · have b1 : decide ((i : Int) < (v.names.length : Int)) = true := by simp; omega
    have w1 : IntKind.i64.wrap ((i : Int) + 1) = ((i + 1 : Nat) : Int) := IntWalk.i64_in _ ⟨by omega, by omega⟩
    by_cases hx : v.names[i] = x
    · have b2 : (v.names[i] == x) = true := by simp [hx]
      (simp (disch := first | decide | omega | (simp only [nx]; first | done | omega)) only [go_sem, Nat.reduceMul, q1, q2, q5, b1, b2]; (repeat (with_reducible refine And.intro (by first | omega | assumption | rfl) ?_)))
      refine ⟨?_, (by (repeat' first | assumption | exact St.Sub.refl _ | exact RowOk.sub (by assumption) (by assumption) | refine St.Sub.trans ?_ (RowOk.sub (by assumption) (by assumption)) | refine St.Sub.add ?_ ?_ _ | refine St.Sub.set ?_ ?_ ?_ _ | refine St.Sub.keep ?_ ?_ | refine St.WF.leave ?_ _ | refine St.WF.add ?_ _ | refine St.WF.set ?_ ?_ _ | refine St.WF.grow ?_ _ _ _ | refine St.WF.keep ?_ ?_ | (first | omega | (simp only [RowOk.lo, nx]; first | done | omega))))⟩
      rw [ixI_first hlt hx fun j hj => hno j (by omega) hj]
      rfl
    · have b2 : (v.names[i] == x) = false := by simp [hx]
      (simp (disch := first | decide | omega | (simp only [nx]; first | done | omega)) only [go_sem, Nat.reduceMul, q1, q2, q5, b1, b2, w1]; (repeat (with_reducible refine And.intro (by first | omega | assumption | rfl) ?_)))
      (refine ⟨by omega, (by (repeat' first | assumption | exact St.Sub.refl _ | exact RowOk.sub (by assumption) (by assumption) | refine St.Sub.trans ?_ (RowOk.sub (by assumption) (by assumption)) | refine St.Sub.add ?_ ?_ _ | refine St.Sub.set ?_ ?_ ?_ _ | refine St.Sub.keep ?_ ?_ | refine St.WF.leave ?_ _ | refine St.WF.add ?_ _ | refine St.WF.set ?_ ?_ _ | refine St.WF.grow ?_ _ _ _ | refine St.WF.keep ?_ ?_ | (first | omega | (simp only [RowOk.lo, nx]; first | done | omega)))), ?_⟩; refine ⟨by omega, ?_, ?_⟩; all_goals (try (first | (simp (disch := first | decide | omega | (simp only [nx]; first | done | omega)) only [go_sem, Nat.reduceMul, w1]; first | done | rfl) | rfl)))
      intro j hj hji
      by_cases e : j = i
      · subst e; exact hx
      · exact hno j hj (by omega)
  · have b1 : decide ((i : Int) < (v.names.length : Int)) = false := by simp; omega
    (simp (disch := first | decide | omega | (simp only [nx]; first | done | omega)) only [go_sem, Nat.reduceMul, q1, q2, q5, b1]; (repeat (with_reducible refine And.intro (by first | omega | assumption | rfl) ?_)))
    refine ⟨?_, (by (repeat' first | assumption | exact St.Sub.refl _ | exact RowOk.sub (by assumption) (by assumption) | refine St.Sub.trans ?_ (RowOk.sub (by assumption) (by assumption)) | refine St.Sub.add ?_ ?_ _ | refine St.Sub.set ?_ ?_ ?_ _ | refine St.Sub.keep ?_ ?_ | refine St.WF.leave ?_ _ | refine St.WF.add ?_ _ | refine St.WF.set ?_ ?_ _ | refine St.WF.grow ?_ _ _ _ | refine St.WF.keep ?_ ?_ | (first | omega | (simp only [RowOk.lo, nx]; first | done | omega))))⟩
    rw [ixI_none fun j hj => hno j hj (by omega)]
    rfl
/-- The place of an element, or -1. -/
def elemI (v : DVal) (x : Nat) : Int := if v.kind = 6 then ixI v.ids x else -1
set_option maxRecDepth 200000 in
set_option maxHeartbeats 4000000 in
theorem refElem_d (v : DVal) (x : Nat) (hw : v.weight ≤ 1000000) : DPure Tryz.prog 40 [encV v, .v (uv x)] (.v (.int .i64 (elemI v x))) := by
  have hww := v.weight_eq
  refine dpure_of_dwp mixed Tryz.func40 rfl (fun _ _ => by kernel_rfl) (rs := [.tmp 4]) rfl (by kernel_rfl) trivial (fun S hS => ?_)
  (simp (disch := first | decide | omega | (simp only [nx]; first | done | omega)) only [go_sem, Nat.reduceMul, encV_eq v]; (repeat (with_reducible refine And.intro (by first | omega | assumption | rfl) ?_)))
  by_cases h6 : v.kind = 6
  · have b6 : (v.kind == 6) = true := by simp [h6]
    (refine dloop_st (fun t => List.contains [4, 5, 6, 7, 8, 9, 10, 11, 12, 13, 14, 15, 16, 17, 18, 19, 20, 21, 22, 23, 24, 25] t) (by kernel_rfl) ?_ (v.ids.length) (fun i f => i ≤ v.ids.length ∧ f 5 = .v (.int .i64 (i : Nat)) ∧ (∀ j (hj : j < v.ids.length), j < i → v.ids[j] ≠ x)) ?_ ?_; (exact (by (repeat' first | assumption | refine St.WF.leave ?_ _ | refine St.WF.add ?_ _ | refine St.WF.set ?_ ?_ _ | refine St.WF.grow ?_ _ _ _ | refine St.WF.keep ?_ ?_ | (first | omega | (simp only [RowOk.lo, nx]; first | done | omega))))); (exact ⟨(by omega), (by (first | (simp (disch := first | decide | omega | (simp only [nx]; first | done | omega)) only [go_sem, Nat.reduceMul]; first | done | rfl) | rfl)), (fun j _ hj => by omega)⟩); intro i g tn hn hT hg hI; obtain ⟨le, q5, hno⟩ := hI; have q1 := hg 1 rfl; have q2 := hg 2 rfl; simp (disch := first | decide | omega | (simp only [nx]; first | done | omega)) only [go_sem, Nat.reduceMul] at q1 q2; clear hg; have hn' := hn; try simp only [add_next, set_next, grow_next, leave_next, drop_next] at hn')
    by_cases hlt : i < v.ids.length
    · have b1 : decide ((i : Int) < (v.ids.length : Int)) = true := by simp; omega
      have w1 : IntKind.i64.wrap ((i : Int) + 1) = ((i + 1 : Nat) : Int) := IntWalk.i64_in _ ⟨by omega, by omega⟩
      by_cases hx : v.ids[i] = x
      · have b2 : ((v.ids[i] : Int) == (x : Int)) = true := by simp [hx]
        (simp (disch := first | decide | omega | (simp only [nx]; first | done | omega)) only [go_sem, Nat.reduceMul, q1, q2, q5, b1, b6, b2, u64D, uv]; (repeat (with_reducible refine And.intro (by first | omega | assumption | rfl) ?_)))
        refine ⟨?_, (by (repeat' first | assumption | exact St.Sub.refl _ | exact RowOk.sub (by assumption) (by assumption) | refine St.Sub.trans ?_ (RowOk.sub (by assumption) (by assumption)) | refine St.Sub.add ?_ ?_ _ | refine St.Sub.set ?_ ?_ ?_ _ | refine St.Sub.keep ?_ ?_ | refine St.WF.leave ?_ _ | refine St.WF.add ?_ _ | refine St.WF.set ?_ ?_ _ | refine St.WF.grow ?_ _ _ _ | refine St.WF.keep ?_ ?_ | (first | omega | (simp only [RowOk.lo, nx]; first | done | omega))))⟩
        rw [elemI, if_pos h6, ixI_first hlt hx fun j hj => hno j (by omega) hj]
        rfl
      · have b2 : ((v.ids[i] : Int) == (x : Int)) = false := by simp; omega
        (simp (disch := first | decide | omega | (simp only [nx]; first | done | omega)) only [go_sem, Nat.reduceMul, q1, q2, q5, b1, b6, b2, w1, u64D, uv]; (repeat (with_reducible refine And.intro (by first | omega | assumption | rfl) ?_)))
        (refine ⟨by omega, (by (repeat' first | assumption | exact St.Sub.refl _ | exact RowOk.sub (by assumption) (by assumption) | refine St.Sub.trans ?_ (RowOk.sub (by assumption) (by assumption)) | refine St.Sub.add ?_ ?_ _ | refine St.Sub.set ?_ ?_ ?_ _ | refine St.Sub.keep ?_ ?_ | refine St.WF.leave ?_ _ | refine St.WF.add ?_ _ | refine St.WF.set ?_ ?_ _ | refine St.WF.grow ?_ _ _ _ | refine St.WF.keep ?_ ?_ | (first | omega | (simp only [RowOk.lo, nx]; first | done | omega)))), ?_⟩; refine ⟨by omega, ?_, ?_⟩; all_goals (try (first | (simp (disch := first | decide | omega | (simp only [nx]; first | done | omega)) only [go_sem, Nat.reduceMul, w1]; first | done | rfl) | rfl)))
        intro j hj hji
        by_cases e : j = i
        · subst e; exact hx
        · exact hno j hj (by omega)
    · have b1 : decide ((i : Int) < (v.ids.length : Int)) = false := by simp; omega
      (simp (disch := first | decide | omega | (simp only [nx]; first | done | omega)) only [go_sem, Nat.reduceMul, q1, q2, q5, b1]; (repeat (with_reducible refine And.intro (by first | omega | assumption | rfl) ?_)))
      refine ⟨?_, (by (repeat' first | assumption | exact St.Sub.refl _ | exact RowOk.sub (by assumption) (by assumption) | refine St.Sub.trans ?_ (RowOk.sub (by assumption) (by assumption)) | refine St.Sub.add ?_ ?_ _ | refine St.Sub.set ?_ ?_ ?_ _ | refine St.Sub.keep ?_ ?_ | refine St.WF.leave ?_ _ | refine St.WF.add ?_ _ | refine St.WF.set ?_ ?_ _ | refine St.WF.grow ?_ _ _ _ | refine St.WF.keep ?_ ?_ | (first | omega | (simp only [RowOk.lo, nx]; first | done | omega))))⟩
      rw [elemI, if_pos h6, ixI_none fun j hj => hno j hj (by omega)]
      rfl
  · have b6 : (v.kind == 6) = false := by simp [h6]
    (refine dloop_st (fun t => List.contains [4, 5, 6, 7, 8, 9, 10, 11, 12, 13, 14, 15, 16, 17, 18, 19, 20, 21, 22, 23, 24, 25] t) (by kernel_rfl) ?_ (v.ids.length) (fun i f => i ≤ v.ids.length ∧ f 5 = .v (.int .i64 (i : Nat))) ?_ ?_; (exact (by (repeat' first | assumption | refine St.WF.leave ?_ _ | refine St.WF.add ?_ _ | refine St.WF.set ?_ ?_ _ | refine St.WF.grow ?_ _ _ _ | refine St.WF.keep ?_ ?_ | (first | omega | (simp only [RowOk.lo, nx]; first | done | omega))))); (exact ⟨(by omega), (by (first | (simp (disch := first | decide | omega | (simp only [nx]; first | done | omega)) only [go_sem, Nat.reduceMul]; first | done | rfl) | rfl))⟩); intro i g tn hn hT hg hI; obtain ⟨le, q5⟩ := hI; have q1 := hg 1 rfl; have q2 := hg 2 rfl; simp (disch := first | decide | omega | (simp only [nx]; first | done | omega)) only [go_sem, Nat.reduceMul] at q1 q2; clear hg; have hn' := hn; try simp only [add_next, set_next, grow_next, leave_next, drop_next] at hn')
    by_cases hlt : i < v.ids.length
    · have b1 : decide ((i : Int) < (v.ids.length : Int)) = true := by simp; omega
      (simp (disch := first | decide | omega | (simp only [nx]; first | done | omega)) only [go_sem, Nat.reduceMul, q1, q2, q5, b1, b6]; (repeat (with_reducible refine And.intro (by first | omega | assumption | rfl) ?_)))
      refine ⟨?_, (by (repeat' first | assumption | exact St.Sub.refl _ | exact RowOk.sub (by assumption) (by assumption) | refine St.Sub.trans ?_ (RowOk.sub (by assumption) (by assumption)) | refine St.Sub.add ?_ ?_ _ | refine St.Sub.set ?_ ?_ ?_ _ | refine St.Sub.keep ?_ ?_ | refine St.WF.leave ?_ _ | refine St.WF.add ?_ _ | refine St.WF.set ?_ ?_ _ | refine St.WF.grow ?_ _ _ _ | refine St.WF.keep ?_ ?_ | (first | omega | (simp only [RowOk.lo, nx]; first | done | omega))))⟩
      rw [elemI, if_neg h6]
      rfl
    · have b1 : decide ((i : Int) < (v.ids.length : Int)) = false := by simp; omega
      (simp (disch := first | decide | omega | (simp only [nx]; first | done | omega)) only [go_sem, Nat.reduceMul, q1, q2, q5, b1]; (repeat (with_reducible refine And.intro (by first | omega | assumption | rfl) ?_)))
      refine ⟨?_, (by (repeat' first | assumption | exact St.Sub.refl _ | exact RowOk.sub (by assumption) (by assumption) | refine St.Sub.trans ?_ (RowOk.sub (by assumption) (by assumption)) | refine St.Sub.add ?_ ?_ _ | refine St.Sub.set ?_ ?_ ?_ _ | refine St.Sub.keep ?_ ?_ | refine St.WF.leave ?_ _ | refine St.WF.add ?_ _ | refine St.WF.set ?_ ?_ _ | refine St.WF.grow ?_ _ _ _ | refine St.WF.keep ?_ ?_ | (first | omega | (simp only [RowOk.lo, nx]; first | done | omega))))⟩
      rw [elemI, if_neg h6]
      rfl
set_option maxRecDepth 200000 in
set_option maxHeartbeats 4000000 in
theorem refFieldV_d (v : DVal) (x : Str) (hw : v.weight ≤ 1000000) : DPure Tryz.prog 76 [encV v, .v (sv x)] (fieldV v x) := by
  refine dpure_of_dwp mixed Tryz.func76 rfl (fun _ _ => by kernel_rfl) (rs := [.cell 4 29, .tmp 5]) rfl (by kernel_rfl) (fieldV_closed v x) (fun S hS => ?_)
  (simp (disch := first | decide | omega | (simp only [nx]; first | done | omega)) only [go_sem, Nat.reduceMul]; (repeat (with_reducible refine And.intro (by first | omega | assumption | rfl) ?_)))
  refine DCalls.of_pure (refFieldI_d v x hw) ?_
  (simp (disch := first | decide | omega | (simp only [nx]; first | done | omega)) only [go_sem, Nat.reduceMul]; (repeat (with_reducible refine And.intro (by first | omega | assumption | rfl) ?_)))
  refine DCalls.of_pure (refWholeV_d v) ?_
  cases hwb : wholeB v with
  | true =>
    by_cases hm : x ∈ v.names
    · have hlt := ix_lt hm
      have hpl : ixN v.names x < v.parts.length := by
        simp only [wholeB, Bool.and_eq_true, decide_eq_true_eq] at hwb
        omega
      have hi : ixI v.names x = (ixN v.names x : Int) := by unfold ixI; rw [if_pos hm]
      have b8 : decide ((ixN v.names x : Int) < 0) = false := by simp
      (simp (disch := first | decide | omega | (simp only [nx]; first | done | omega)) only [go_sem, Nat.reduceMul, hi, b8]; (repeat (with_reducible refine And.intro (by first | omega | assumption | rfl) ?_)))
      refine ⟨?_, (by (repeat' first | assumption | exact St.Sub.refl _ | exact RowOk.sub (by assumption) (by assumption) | refine St.Sub.trans ?_ (RowOk.sub (by assumption) (by assumption)) | refine St.Sub.add ?_ ?_ _ | refine St.Sub.set ?_ ?_ ?_ _ | refine St.Sub.keep ?_ ?_ | refine St.WF.leave ?_ _ | refine St.WF.add ?_ _ | refine St.WF.set ?_ ?_ _ | refine St.WF.grow ?_ _ _ _ | refine St.WF.keep ?_ ?_ | (first | omega | (simp only [RowOk.lo, nx]; first | done | omega))))⟩
      simp only [D.frz, frzL, frz_encV, fieldV, hwb, hm, and_self, if_true, getD_at hpl]
    · have b7 : decide (ixI v.names x < 0) = true := by unfold ixI; rw [if_neg hm]; decide
      (simp (disch := first | decide | omega | (simp only [nx]; first | done | omega)) only [go_sem, Nat.reduceMul, b7]; (repeat (with_reducible refine And.intro (by first | omega | assumption | rfl) ?_)))
      refine ⟨?_, (by (repeat' first | assumption | exact St.Sub.refl _ | exact RowOk.sub (by assumption) (by assumption) | refine St.Sub.trans ?_ (RowOk.sub (by assumption) (by assumption)) | refine St.Sub.add ?_ ?_ _ | refine St.Sub.set ?_ ?_ ?_ _ | refine St.Sub.keep ?_ ?_ | refine St.WF.leave ?_ _ | refine St.WF.add ?_ _ | refine St.WF.set ?_ ?_ _ | refine St.WF.grow ?_ _ _ _ | refine St.WF.keep ?_ ?_ | (first | omega | (simp only [RowOk.lo, nx]; first | done | omega))))⟩
      simp only [D.frz, frzL, fieldV, hm, and_false, if_false]
      rfl
  | false =>
    (simp (disch := first | decide | omega | (simp only [nx]; first | done | omega)) only [go_sem, Nat.reduceMul]; (repeat (with_reducible refine And.intro (by first | omega | assumption | rfl) ?_)))
    refine ⟨?_, (by (repeat' first | assumption | exact St.Sub.refl _ | exact RowOk.sub (by assumption) (by assumption) | refine St.Sub.trans ?_ (RowOk.sub (by assumption) (by assumption)) | refine St.Sub.add ?_ ?_ _ | refine St.Sub.set ?_ ?_ ?_ _ | refine St.Sub.keep ?_ ?_ | refine St.WF.leave ?_ _ | refine St.WF.add ?_ _ | refine St.WF.set ?_ ?_ _ | refine St.WF.grow ?_ _ _ _ | refine St.WF.keep ?_ ?_ | (first | omega | (simp only [RowOk.lo, nx]; first | done | omega))))⟩
    simp only [D.frz, frzL, fieldV, hwb, Bool.false_eq_true, false_and, if_false]
    rfl
end Go.Proofs.YtjjhjhjphhpeiaaGreatDoor

namespace Go.Proofs.YtjjhjhjphhpeiaaGreatDoor
open Go.RowKit
set_option linter.unusedSimpArgs false
set_option linter.unusedVariables false
theorem getV_app : ∀ (p q : List DStp) (v : DVal), getV (p ++ q) v = (getV p v).bind (getV q)
  | [], q, v => rfl
  | p :: ps, q, v => by
    rw [List.cons_append, getV_cons, getV_cons]
    split
    · exact getV_app ps q _
    · rfl
def stepG (v : DVal) (p : DStp) : Option DVal := getV [p] v
theorem stepG_eq (v : DVal) (p : DStp) : stepG v p = if inP v p then some (v.parts.getD (plN v p) default) else none := by
  rw [stepG, getV_cons]; rfl
def getA (ps : List DStp) (v : DVal) (i : Nat) : DVal := (getV (ps.take i) v).getD zeroV
theorem getA_succ {ps : List DStp} {v : DVal} {i : Nat} (hi : i < ps.length) (h : (getV (ps.take i) v).isSome = true) : getV (ps.take (i + 1)) v = stepG (getA ps v i) ps[i] := by
  rw [List.take_succ_eq_append_getElem hi, getV_app]
  obtain ⟨t, ht⟩ := Option.isSome_iff_exists.1 h
  rw [getA, ht]; rfl
theorem getV_none {ps : List DStp} {v : DVal} {i : Nat} (h : getV (ps.take i) v = none) : getV ps v = none := by
  have := getV_app (ps.take i) (ps.drop i) v
  rw [List.take_append_drop] at this
  rw [this, h]; rfl
theorem getV_wt : ∀ (p : List DStp) {v u : DVal}, getV p v = some u → u.weight ≤ v.weight
  | [], v, u, h => by injection h with h; subst h; exact Nat.le_refl _
  | p :: ps, v, u, h => by
    rw [getV_cons] at h
    split at h
    · rename_i hin
      have hpl : plN v p < v.parts.length := by have := hin.1; have := hin.2; unfold plN; omega
      rw [getD_at hpl] at h
      have h1 := getV_wt ps h
      have h2 := DVal.weight_part (List.getElem_mem hpl)
      omega
    · cases h
theorem stepG_name {v : DVal} {p : DStp} (h : p.1 ≠ []) : fieldV v p.1 = .tup [encV ((stepG v p).getD zeroV), .v (.bool (stepG v p).isSome)] := by
  rw [stepG_eq]
  unfold fieldV
  have hpo : placeOf v p = if wholeB v = true ∧ p.1 ∈ v.names then (ixN v.names p.1 : Int) else -1 := by unfold placeOf; rw [if_neg h]
  by_cases hc : wholeB v = true ∧ p.1 ∈ v.names
  · rw [if_pos hc] at hpo
    have hlt := ix_lt hc.2
    have hpl : ixN v.names p.1 < v.parts.length := by
      have := hc.1
      simp only [wholeB, Bool.and_eq_true, decide_eq_true_eq] at this
      omega
    have hin : inP v p := ⟨by rw [hpo]; omega, by rw [hpo]; omega⟩
    have hpn : plN v p = ixN v.names p.1 := by unfold plN; rw [hpo]; simp
    rw [if_pos hc, if_pos hin, hpn]; rfl
  · rw [if_neg hc] at hpo
    have hin : ¬ inP v p := fun h => by have := h.1; rw [hpo] at this; omega
    rw [if_neg hc, if_neg hin]; rfl
theorem stepG_id {v : DVal} {p : DStp} (h : p.1 = []) : placeOf v p = elemI v p.2 := by
  unfold placeOf elemI ixI
  rw [if_pos h]
  by_cases h6 : v.kind = 6
  · rw [if_pos h6]
    by_cases hm : p.2 ∈ v.ids
    · rw [if_pos ⟨h6, hm⟩, if_pos hm]
    · rw [if_neg (fun h => hm h.2), if_neg hm]
  · rw [if_neg (fun h => h6 h.1), if_neg h6]
theorem getD_frz (v : DVal) (b : Bool) : (D.tup [encV v, .v (.bool b)]).frz = .tup [encV v, .v (.bool b)] := by simp only [D.frz, frzL, frz_encV]
set_option maxRecDepth 200000 in
set_option maxHeartbeats 8000000 in
theorem refGet_d (v : DVal) (ps : List DStp) (own : Own) (hok : okV v) (hw : v.weight ≤ 1000000) (hl : ps.length ≤ 1000000) : DPure Tryz.prog 39 [encV v, .sl own (ps.map encP)] (getD_ v ps) := by
  refine dpure_of_dwp mixed Tryz.func39 rfl (fun _ _ => by kernel_rfl) (rs := [.cell 4 29, .tmp 5]) rfl (by kernel_rfl) (closed_res _ _) (fun S hS => ?_)
  (simp (disch := first | decide | omega | (simp only [nx]; first | done | omega)) only [go_sem, Nat.reduceMul]; (repeat (with_reducible refine And.intro (by first | omega | assumption | rfl) ?_)))
  (refine dloop_var (fun t => List.contains [5, 6, 7, 8, 9, 10, 11, 12, 13, 14, 15, 16, 17, 18, 19, 20, 21, 22, 23, 24, 25, 26, 27, 28, 29, 30, 31, 32, 33, 34, 35, 36, 37, 38, 39, 40, 41, 42, 43, 44, 45, 46, 47, 48, 49, 50, 51, 52, 53, 54, 55, 56, 57] t) (by kernel_rfl) ?_ (ps.length) (S.next) (fun i => .box 29 (encV (getA ps v i)).cells) ?_ (fun i f => i ≤ ps.length ∧ f 6 = .v (.int .i64 (i : Nat)) ∧ ((getV (ps.take i) v).isSome = true)) ?_ ?_; (exact (by (repeat' first | assumption | refine St.WF.leave ?_ _ | refine St.WF.add ?_ _ | refine St.WF.set ?_ ?_ _ | refine St.WF.grow ?_ _ _ _ | refine St.WF.keep ?_ ?_ | (first | omega | (simp only [RowOk.lo, nx]; first | done | omega))))); (exact (by (first | (simp (disch := first | decide | omega | (simp only [nx]; first | done | omega)) only [go_sem, Nat.reduceMul]; first | done | rfl) | rfl))); (exact ⟨(by omega), (by (first | (simp (disch := first | decide | omega | (simp only [nx]; first | done | omega)) only [go_sem, Nat.reduceMul]; first | done | rfl) | rfl)), (rfl)⟩); intro i g tn hn hT hg hI; obtain ⟨le, q6, hs⟩ := hI; have q1 := hg 1 rfl; have q2 := hg 2 rfl; have q4 := hg 4 rfl; simp (disch := first | decide | omega | (simp only [nx]; first | done | omega)) only [go_sem, Nat.reduceMul] at q1 q2 q4; clear hg; have hn' := hn; try simp only [add_next, set_next, grow_next, leave_next, drop_next] at hn')
  obtain ⟨t, ht⟩ := Option.isSome_iff_exists.1 hs
  have hta : getA ps v i = t := by rw [getA, ht]; rfl
  have hnx0 := fun h => getA_succ (i := i) (ps := ps) (v := v) h hs
  have hto := getV_ok _ hok ht
  have htw := getV_wt _ ht
  rw [hta] at hnx0 hT
  rw [hta]
  by_cases hlt : i < ps.length
  · have b1 : decide ((i : Int) < (ps.length : Int)) = true := by simp; omega
    have w1 : IntKind.i64.wrap ((i : Int) + 1) = ((i + 1 : Nat) : Int) := IntWalk.i64_in _ ⟨by omega, by omega⟩
    have hnx := hnx0 hlt
    have hsn : S.next < tn := by omega
    have hsn1 : S.next + 1 < tn := by omega
    by_cases h0 : ps[i].1 = []
    · have b2 : (!(ps[i].1 == [])) = false := by simp [h0]
      (simp (disch := first | decide | omega | (simp only [nx]; first | done | omega)) only [go_sem, Nat.reduceMul, q1, q2, q4, q6, b1, b2]; (repeat (with_reducible refine And.intro (by first | omega | assumption | rfl) ?_)))
      refine ddraw_mk 8 (by kernel_rfl) ?_
      (simp (disch := first | decide | omega | (simp only [nx]; first | done | omega)) only [go_sem, Nat.reduceMul, q1, q2, q4, q6]; (repeat (with_reducible refine And.intro (by first | omega | assumption | rfl) ?_)))
      refine dqgo_mk (refElem_d t ps[i].2 (by omega)) ?_
      have hpo := stepG_id (v := t) h0
      by_cases hin : inP t ps[i]
      · have hpl : plN t ps[i] < t.parts.length := by have := hin.1; have := hin.2; unfold plN; omega
        have he : elemI t ps[i].2 = ((plN t ps[i] : Nat) : Int) := by rw [← hpo]; unfold plN; have := hin.1; omega
        have b3 : decide (((plN t ps[i] : Nat) : Int) < 0) = false := by simp
        have b4 : decide ((t.parts.length : Int) ≤ ((plN t ps[i] : Nat) : Int)) = false := by simp; omega
        have g1 := getD_map encV t.parts _ hpl
        have hs1 : getV (ps.take (i + 1)) v = some t.parts[plN t ps[i]] := by rw [hnx, stepG_eq, if_pos hin, getD_at hpl]
        have hta1 : getA ps v (i + 1) = t.parts[plN t ps[i]] := by rw [getA, hs1]; rfl
        (simp (disch := first | decide | omega | (simp only [nx]; first | done | omega)) only [go_sem, Nat.reduceMul, q1, q2, q4, q6, he, b3, b4, g1, w1]; (repeat (with_reducible refine And.intro (by first | omega | assumption | rfl) ?_)))
        (refine ⟨by omega, St.Sub.upd hn (by simp only [hta1]) (by (repeat' first | assumption | exact St.Sub.refl _ | exact RowOk.sub (by assumption) (by assumption) | refine St.Sub.trans ?_ (RowOk.sub (by assumption) (by assumption)) | refine St.Sub.add ?_ ?_ _ | refine St.Sub.set ?_ ?_ ?_ _ | refine St.Sub.keep ?_ ?_ | refine St.WF.leave ?_ _ | refine St.WF.add ?_ _ | refine St.WF.set ?_ ?_ _ | refine St.WF.grow ?_ _ _ _ | refine St.WF.keep ?_ ?_ | (first | omega | (simp only [RowOk.lo, nx]; first | done | omega)))), ?_⟩; refine ⟨by omega, ?_, ?_⟩; all_goals (try (first | (simp (disch := first | decide | omega | (simp only [nx]; first | done | omega)) only [go_sem, Nat.reduceMul, w1]; first | done | rfl) | rfl)))
        rw [hs1]; rfl
      · have hn : getV ps v = none := getV_none (i := i + 1) (by rw [hnx, stepG_eq, if_neg hin])
        have b34 : decide (elemI t ps[i].2 < 0) = true ∨ (decide (elemI t ps[i].2 < 0) = false ∧ decide ((t.parts.length : Int) ≤ elemI t ps[i].2) = true) := by
          rw [← hpo]
          by_cases hneg : placeOf t ps[i] < 0
          · exact .inl (decide_eq_true hneg)
          · exact .inr ⟨decide_eq_false hneg, decide_eq_true (by
              by_cases hc : (t.parts.length : Int) ≤ placeOf t ps[i]
              · exact hc
              · exact absurd ⟨by omega, by omega⟩ hin)⟩
        rcases b34 with b3 | ⟨b3, b4⟩
        · (simp (disch := first | decide | omega | (simp only [nx]; first | done | omega)) only [go_sem, Nat.reduceMul, q1, q2, q4, q6, b3]; (repeat (with_reducible refine And.intro (by first | omega | assumption | rfl) ?_)))
          refine ⟨?_, (by (repeat' first | assumption | exact St.Sub.refl _ | exact RowOk.sub (by assumption) (by assumption) | refine St.Sub.trans ?_ (RowOk.sub (by assumption) (by assumption)) | refine St.Sub.add ?_ ?_ _ | refine St.Sub.set ?_ ?_ ?_ _ | refine St.Sub.keep ?_ ?_ | refine St.WF.leave ?_ _ | refine St.WF.add ?_ _ | refine St.WF.set ?_ ?_ _ | refine St.WF.grow ?_ _ _ _ | refine St.WF.keep ?_ ?_ | (first | omega | (simp only [RowOk.lo, nx]; first | done | omega))))⟩
          rw [getD_, hn]; rfl
        · (simp (disch := first | decide | omega | (simp only [nx]; first | done | omega)) only [go_sem, Nat.reduceMul, q1, q2, q4, q6, b3, b4]; (repeat (with_reducible refine And.intro (by first | omega | assumption | rfl) ?_)))
          refine ⟨?_, (by (repeat' first | assumption | exact St.Sub.refl _ | exact RowOk.sub (by assumption) (by assumption) | refine St.Sub.trans ?_ (RowOk.sub (by assumption) (by assumption)) | refine St.Sub.add ?_ ?_ _ | refine St.Sub.set ?_ ?_ ?_ _ | refine St.Sub.keep ?_ ?_ | refine St.WF.leave ?_ _ | refine St.WF.add ?_ _ | refine St.WF.set ?_ ?_ _ | refine St.WF.grow ?_ _ _ _ | refine St.WF.keep ?_ ?_ | (first | omega | (simp only [RowOk.lo, nx]; first | done | omega))))⟩
          rw [getD_, hn]; rfl
    · have b2 : (!(ps[i].1 == [])) = true := by simp [h0]
      (simp (disch := first | decide | omega | (simp only [nx]; first | done | omega)) only [go_sem, Nat.reduceMul, q1, q2, q4, q6, b1, b2]; (repeat (with_reducible refine And.intro (by first | omega | assumption | rfl) ?_)))
      have hfe := stepG_name (v := t) h0
      cases hst : stepG t ps[i] with
      | none =>
        rw [hst] at hfe
        have hn : getV ps v = none := getV_none (i := i + 1) (by rw [hnx, hst])
        (refine ddraw_any (fun S' => S'.ob S.next = some (.box 29 (encV t).cells)) 13 (by (first | (simp (disch := first | decide | omega | (simp only [nx]; first | done | omega)) only [go_sem, Nat.reduceMul, q1, q2, q6, hfe, Option.getD_none, Option.isSome_none]; first | done | rfl) | rfl)) (by kernel_rfl) ?_; refine s_take 0 rfl (by kernel_rfl) (by kernel_rfl) (v := ?v1) (fun S' hz => dquietR_of ?h1) <| s_take 1 rfl (by kernel_rfl) (by kernel_rfl) (v := ?v2) (fun S' hz => dquietR_of ?h2) <| s_take 2 rfl (by kernel_rfl) (by kernel_rfl) (v := ?v3) (fun S' hz => dquietR_of ?h3) <| s_take 3 rfl (by kernel_rfl) (by kernel_rfl) (v := ?v4) (fun S' hz => dquietR_of ?h4) <| s_take 4 rfl (by kernel_rfl) (by kernel_rfl) (v := ?v5) (fun S' hz => dquietR_of ?h5) <| s_take 5 rfl (by kernel_rfl) (by kernel_rfl) (v := ?v6) (fun S' hz => dquietR_of ?h6) <| ?k6; (case h1 | h2 | h3 | h4 | h5 | h6 => ((simp (disch := first | decide | omega | (simp only [nx]; first | done | omega)) only [go_sem, Nat.reduceMul, q1, q2, q6, hfe, Option.getD_none, Option.isSome_none, hz]; (repeat (with_reducible refine And.intro (by first | omega | assumption | rfl) ?_))); first | done | exact rfl | omega)); refine s_take 6 rfl (by kernel_rfl) (by kernel_rfl) (v := ?v7) (fun S' hz => dquietR_of ?h7) ?k7; (case h7 => ((simp (disch := first | decide | omega | (simp only [nx]; first | done | omega)) only [go_sem, Nat.reduceMul, q1, q2, q6, hfe, Option.getD_none, Option.isSome_none, hz]; (repeat (with_reducible refine And.intro (by first | omega | assumption | rfl) ?_))); refine dqgo_mk (refFieldV_d t ps[i].1 (by omega)) ?_; exact rfl)); refine s_take 7 rfl (by kernel_rfl) (by kernel_rfl) (v := ?v8) (fun S' hz => dquietR_of ?h8) <| s_take 8 rfl (by kernel_rfl) (by kernel_rfl) (v := ?v9) (fun S' hz => dquietR_of ?h9) <| s_take 9 rfl (by kernel_rfl) (by kernel_rfl) (v := ?v10) (fun S' hz => dquietR_of ?h10) <| ?k10; (case h8 | h9 | h10 => ((simp (disch := first | decide | omega | (simp only [nx]; first | done | omega)) only [go_sem, Nat.reduceMul, q1, q2, q6, hfe, Option.getD_none, Option.isSome_none, hz]; (repeat (with_reducible refine And.intro (by first | omega | assumption | rfl) ?_))); first | done | exact rfl | omega)); refine s_split [10] (by kernel_rfl) (by simp) ?_; intro j_ hj_; obtain rfl : j_ = 10 := (by simpa using hj_); clear hj_; refine s_op rfl ?_; (simp (disch := first | decide | omega | (simp only [nx]; first | done | omega)) only [go_sem, Nat.reduceMul, q1, q2, q6, hfe, Option.getD_none, Option.isSome_none]; (repeat (with_reducible refine And.intro (by first | omega | assumption | rfl) ?_))); refine s_split [11] (by kernel_rfl) (by simp) ?_; intro j_ hj_; obtain rfl : j_ = 11 := (by simpa using hj_); clear hj_; refine s_op rfl ?_; (simp (disch := first | decide | omega | (simp only [nx]; first | done | omega)) only [go_sem, Nat.reduceMul, q1, q2, q6, hfe, Option.getD_none, Option.isSome_none]; (repeat (with_reducible refine And.intro (by first | omega | assumption | rfl) ?_))); refine s_take 12 rfl (by kernel_rfl) (by kernel_rfl) (v := ?v11) (fun S' hz => dquietR_of ?h11) ?k11; (case h11 => ((simp (disch := first | decide | omega | (simp only [nx]; first | done | omega)) only [go_sem, Nat.reduceMul, q1, q2, q6, hfe, Option.getD_none, Option.isSome_none, hz]; (repeat (with_reducible refine And.intro (by first | omega | assumption | rfl) ?_))); first | done | exact rfl | omega)); refine s_done (by kernel_rfl) ?_; (simp (disch := first | decide | omega | (simp only [nx]; first | done | omega)) only [go_sem, Nat.reduceMul, q1, q2, q6, hfe, Option.getD_none, Option.isSome_none]; (repeat (with_reducible refine And.intro (by first | omega | assumption | rfl) ?_))))
        (simp (disch := first | decide | omega | (simp only [nx]; first | done | omega)) only [go_sem, Nat.reduceMul, q1, q2, q4, q6]; (repeat (with_reducible refine And.intro (by first | omega | assumption | rfl) ?_)))
        refine ⟨?_, (by (repeat' first | assumption | exact St.Sub.refl _ | exact RowOk.sub (by assumption) (by assumption) | refine St.Sub.trans ?_ (RowOk.sub (by assumption) (by assumption)) | refine St.Sub.add ?_ ?_ _ | refine St.Sub.set ?_ ?_ ?_ _ | refine St.Sub.keep ?_ ?_ | refine St.WF.leave ?_ _ | refine St.WF.add ?_ _ | refine St.WF.set ?_ ?_ _ | refine St.WF.grow ?_ _ _ _ | refine St.WF.keep ?_ ?_ | (first | omega | (simp only [RowOk.lo, nx]; first | done | omega))))⟩
        rw [getD_, hn]; rfl
      | some u =>
        rw [hst] at hfe
        have hs1 : getV (ps.take (i + 1)) v = some u := by rw [hnx, hst]
        have hta1 : getA ps v (i + 1) = u := by rw [getA, hs1]; rfl
        (refine ddraw_any (fun S' => S'.ob S.next = some (.box 29 (encV t).cells)) 13 (by (first | (simp (disch := first | decide | omega | (simp only [nx]; first | done | omega)) only [go_sem, Nat.reduceMul, q1, q2, q6, hfe, Option.getD_some, Option.isSome_some]; first | done | rfl) | rfl)) (by kernel_rfl) ?_; refine s_take 0 rfl (by kernel_rfl) (by kernel_rfl) (v := ?v12) (fun S' hz => dquietR_of ?h12) <| s_take 1 rfl (by kernel_rfl) (by kernel_rfl) (v := ?v13) (fun S' hz => dquietR_of ?h13) <| s_take 2 rfl (by kernel_rfl) (by kernel_rfl) (v := ?v14) (fun S' hz => dquietR_of ?h14) <| s_take 3 rfl (by kernel_rfl) (by kernel_rfl) (v := ?v15) (fun S' hz => dquietR_of ?h15) <| s_take 4 rfl (by kernel_rfl) (by kernel_rfl) (v := ?v16) (fun S' hz => dquietR_of ?h16) <| s_take 5 rfl (by kernel_rfl) (by kernel_rfl) (v := ?v17) (fun S' hz => dquietR_of ?h17) <| ?k17; (case h12 | h13 | h14 | h15 | h16 | h17 => ((simp (disch := first | decide | omega | (simp only [nx]; first | done | omega)) only [go_sem, Nat.reduceMul, q1, q2, q6, hfe, Option.getD_some, Option.isSome_some, hz]; (repeat (with_reducible refine And.intro (by first | omega | assumption | rfl) ?_))); first | done | exact rfl | omega)); refine s_take 6 rfl (by kernel_rfl) (by kernel_rfl) (v := ?v18) (fun S' hz => dquietR_of ?h18) ?k18; (case h18 => ((simp (disch := first | decide | omega | (simp only [nx]; first | done | omega)) only [go_sem, Nat.reduceMul, q1, q2, q6, hfe, Option.getD_some, Option.isSome_some, hz]; (repeat (with_reducible refine And.intro (by first | omega | assumption | rfl) ?_))); refine dqgo_mk (refFieldV_d t ps[i].1 (by omega)) ?_; exact rfl)); refine s_take 7 rfl (by kernel_rfl) (by kernel_rfl) (v := ?v19) (fun S' hz => dquietR_of ?h19) <| s_take 8 rfl (by kernel_rfl) (by kernel_rfl) (v := ?v20) (fun S' hz => dquietR_of ?h20) <| s_take 9 rfl (by kernel_rfl) (by kernel_rfl) (v := ?v21) (fun S' hz => dquietR_of ?h21) <| ?k21; (case h19 | h20 | h21 => ((simp (disch := first | decide | omega | (simp only [nx]; first | done | omega)) only [go_sem, Nat.reduceMul, q1, q2, q6, hfe, Option.getD_some, Option.isSome_some, hz]; (repeat (with_reducible refine And.intro (by first | omega | assumption | rfl) ?_))); first | done | exact rfl | omega)); refine s_split [10] (by kernel_rfl) (by simp) ?_; intro j_ hj_; obtain rfl : j_ = 10 := (by simpa using hj_); clear hj_; refine s_op rfl ?_; (simp (disch := first | decide | omega | (simp only [nx]; first | done | omega)) only [go_sem, Nat.reduceMul, q1, q2, q6, hfe, Option.getD_some, Option.isSome_some]; (repeat (with_reducible refine And.intro (by first | omega | assumption | rfl) ?_))); refine s_split [11] (by kernel_rfl) (by simp) ?_; intro j_ hj_; obtain rfl : j_ = 11 := (by simpa using hj_); clear hj_; refine s_op rfl ?_; (simp (disch := first | decide | omega | (simp only [nx]; first | done | omega)) only [go_sem, Nat.reduceMul, q1, q2, q6, hfe, Option.getD_some, Option.isSome_some]; (repeat (with_reducible refine And.intro (by first | omega | assumption | rfl) ?_))); refine s_take 12 rfl (by kernel_rfl) (by kernel_rfl) (v := ?v22) (fun S' hz => dquietR_of ?h22) ?k22; (case h22 => ((simp (disch := first | decide | omega | (simp only [nx]; first | done | omega)) only [go_sem, Nat.reduceMul, q1, q2, q6, hfe, Option.getD_some, Option.isSome_some, hz]; (repeat (with_reducible refine And.intro (by first | omega | assumption | rfl) ?_))); first | done | exact rfl | omega)); refine s_done (by kernel_rfl) ?_; (simp (disch := first | decide | omega | (simp only [nx]; first | done | omega)) only [go_sem, Nat.reduceMul, q1, q2, q6, hfe, Option.getD_some, Option.isSome_some]; (repeat (with_reducible refine And.intro (by first | omega | assumption | rfl) ?_))))
        (simp (disch := first | decide | omega | (simp only [nx]; first | done | omega)) only [go_sem, Nat.reduceMul, q1, q2, q4, q6, w1]; (repeat (with_reducible refine And.intro (by first | omega | assumption | rfl) ?_)))
        (refine ⟨by omega, St.Sub.upd hn (by simp only [hta1]) (by (repeat' first | assumption | exact St.Sub.refl _ | exact RowOk.sub (by assumption) (by assumption) | refine St.Sub.trans ?_ (RowOk.sub (by assumption) (by assumption)) | refine St.Sub.add ?_ ?_ _ | refine St.Sub.set ?_ ?_ ?_ _ | refine St.Sub.keep ?_ ?_ | refine St.WF.leave ?_ _ | refine St.WF.add ?_ _ | refine St.WF.set ?_ ?_ _ | refine St.WF.grow ?_ _ _ _ | refine St.WF.keep ?_ ?_ | (first | omega | (simp only [RowOk.lo, nx]; first | done | omega)))), ?_⟩; refine ⟨by omega, ?_, ?_⟩; all_goals (try (first | (simp (disch := first | decide | omega | (simp only [nx]; first | done | omega)) only [go_sem, Nat.reduceMul, w1]; first | done | rfl) | rfl)))
        rw [hs1]; rfl
  · have b1 : decide ((i : Int) < (ps.length : Int)) = false := by simp; omega
    (simp (disch := first | decide | omega | (simp only [nx]; first | done | omega)) only [go_sem, Nat.reduceMul, q1, q2, q4, q6, b1]; (repeat (with_reducible refine And.intro (by first | omega | assumption | rfl) ?_)))
    refine ⟨?_, (by (repeat' first | assumption | exact St.Sub.refl _ | exact RowOk.sub (by assumption) (by assumption) | refine St.Sub.trans ?_ (RowOk.sub (by assumption) (by assumption)) | refine St.Sub.add ?_ ?_ _ | refine St.Sub.set ?_ ?_ ?_ _ | refine St.Sub.keep ?_ ?_ | refine St.WF.leave ?_ _ | refine St.WF.add ?_ _ | refine St.WF.set ?_ ?_ _ | refine St.WF.grow ?_ _ _ _ | refine St.WF.keep ?_ ?_ | (first | omega | (simp only [RowOk.lo, nx]; first | done | omega))))⟩
    rw [show ps.take i = ps from List.take_of_length_le (by omega)] at ht
    rw [getD_, ht, getD_frz]; rfl
end Go.Proofs.YtjjhjhjphhpeiaaGreatDoor
