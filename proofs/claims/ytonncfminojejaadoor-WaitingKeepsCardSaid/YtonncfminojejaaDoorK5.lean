/- Texts of a proof, part 5. Conditions: none. -/
import Derived.Test.YtonncfminojejaaDoorK4
import Derived.Stop.BytesEq
import Derived.Shelf.SlSortCmp.Insertion
import Derived.Shelf.SlSortCmp.WholeK
import Derived.Lib.QuietBelow
import Derived.Ground.SlsfProg
import Derived.LaidEql
import Derived.Stop.Asserts
import Derived.RowKitTokens
set_option linter.unusedVariables false
set_option linter.unusedSimpArgs false
namespace Go.Proofs.YtonncfminojejaaDoor
open Go.RowKit
abbrev H32 := {l : List UInt8 // l.length = 32}
def encH (h : H32) : D := .agg (h.1.map bD)
abbrev DMk := Int × H32
theorem cells_encH (h : H32) : (encH h).cells = h.1.map bD := rfl
theorem len_encH (h : H32) : (h.1.map bD).length = 32 := by simp [h.2]
theorem width_encH (h : H32) : (encH h).width = 32 := len_encH h
theorem okCell_encH (h : H32) : (encH h).okCell = true := rfl
theorem take_hash (h : H32) : (h.1.map bD).take 32 = h.1.map bD := List.take_of_length_le (by rw [len_encH]; omega)
theorem agg_hash (h : H32) : D.agg (h.1.map bD) = encH h := rfl
def bV (b : UInt8) : Value := .int .u8 b.toNat
theorem vals_bytes : ∀ l : List UInt8, vals (l.map bD) = some (l.map bV)
  | [] => rfl
  | b :: l => by simp [vals, bD, bV, vals_bytes l]
theorem valsEq_bytes : ∀ a b : List UInt8, valsEq (a.map bV) (b.map bV) = decide (a = b)
  | [], [] => by simp [valsEq]
  | [], _ :: _ => by simp [valsEq]
  | _ :: _, [] => by simp [valsEq]
  | x :: a, y :: b => by
    have ih := valsEq_bytes a b
    simp only [List.map_cons, valsEq, ih, bV, cellEq]
    rw [Bool.eq_iff_iff]
    simp [← UInt8.toNat_inj]
    omega
theorem valsEq_hash (a b : H32) : valsEq (a.1.map bV) (b.1.map bV) = decide (a = b) := by
  rw [valsEq_bytes]; congr 1; rw [Subtype.ext_iff]
theorem bV_cell : bV = Go.Extern.Stop.cell := rfl
theorem equalIn_hash (d : Nat) (a b : H32) (w : World) : (Op.equalIn (d + 2) 37 (.agg (a.1.map bV).toArray) (.agg (b.1.map bV).toArray)).run Tryd.prog w = .ok (decide (a = b)) w := by
  rw [bV_cell, run_equalIn_bytes (P := Tryd.prog) w d 37 5 32 Tryd.underlying37 Tryd.underlying5 (fun w => by kernel_rfl) a.1 b.1 a.2 b.2]
  congr 1
  rw [Bool.eq_iff_iff]
  simp [Subtype.ext_iff]
theorem eqOk_hash {x y : Operand} (a b : H32) : EqOk Tryd.prog .eql 37 x y (a.1.map bV) (b.1.map bV) (decide (a = b)) ∧ EqOk Tryd.prog .neq 37 x y (a.1.map bV) (b.1.map bV) (!decide (a = b)) := by
  constructor <;> intro w
  · rw [Sem.run_bind, run_eqGuard_agg w _ _ _ _ _ _ (by kernel_rfl), Result.andThen_ok, run_eql_struct, equalIn_hash 9998 a b w, Result.andThen_ok]
  · rw [Sem.run_bind, run_eqGuard_agg w _ _ _ _ _ _ (by kernel_rfl), Result.andThen_ok, run_neq_struct, equalIn_hash 9998 a b w, Result.andThen_ok]
section
variable {x y : Operand} {K : D → Prop} {K' : D → St → Prop} {S : St}
theorem bin_eqH (a b : H32) : dbin Tryd.prog .eql 37 x y (encH a) (encH b) = some (EqOk Tryd.prog .eql 37 x y (a.1.map bV) (b.1.map bV) (decide (a = b)), .v (.bool (decide (a = b)))) := by
  simp only [dbin, encH, vals_bytes, dbinA, valsEq_hash]
theorem bin_neH (a b : H32) : dbin Tryd.prog .neq 37 x y (encH a) (encH b) = some (EqOk Tryd.prog .neq 37 x y (a.1.map bV) (b.1.map bV) (!decide (a = b)), .v (.bool (!decide (a = b)))) := by
  simp only [dbin, encH, vals_bytes, dbinA, valsEq_hash]
theorem onVal_eqH (a b : H32) : onVal (dbin Tryd.prog .eql 37 x y (encH a) (encH b)) K = K (.v (.bool (decide (a = b)))) := by
  rw [bin_eqH, onVal_some]; exact propext ⟨fun h => h.2, fun h => ⟨(eqOk_hash a b).1, h⟩⟩
theorem onVal_neH (a b : H32) : onVal (dbin Tryd.prog .neq 37 x y (encH a) (encH b)) K = K (.v (.bool (!decide (a = b)))) := by
  rw [bin_neH, onVal_some]; exact propext ⟨fun h => h.2, fun h => ⟨(eqOk_hash a b).2, h⟩⟩
theorem onValS_eqH (a b : H32) : onValS (dbin Tryd.prog .eql 37 x y (encH a) (encH b)) K' S = K' (.v (.bool (decide (a = b)))) S := by
  rw [bin_eqH, onValS_some]; exact propext ⟨fun h => h.2, fun h => ⟨(eqOk_hash a b).1, h⟩⟩
theorem onValS_neH (a b : H32) : onValS (dbin Tryd.prog .neq 37 x y (encH a) (encH b)) K' S = K' (.v (.bool (!decide (a = b)))) S := by
  rw [bin_neH, onValS_some]; exact propext ⟨fun h => h.2, fun h => ⟨(eqOk_hash a b).2, h⟩⟩
end
attribute [go_sem] onVal_eqH onVal_neH onValS_eqH onValS_neH cells_encH take_hash agg_hash len_encH width_encH okCell_encH
end Go.Proofs.YtonncfminojejaaDoor

namespace Go.Proofs.YtonncfminojejaaDoor
open Go.RowKit
theorem dat_of_dwpL {P : Program} (hm : P.follows .mixedOrders = true) {g : FuncId} {fn : Func} {c : Code} (hf : P.funcs[g]? = some fn) (hb : fn.body = some c) (hent : ∀ vs w, (callFunc g vs).run P w = .ok (.enter g vs) w) {rs : List ResultVar} (hrs : fn.results.toList = rs) {args : List D} (hok : (codeOk fn.ntmps c && fn.results.all (resOk fn.ntmps) && Nat.ble args.length fn.ntmps) = true) {d : D} (hc : d.closed) {S : St}
    (h : S.WF → dwp P c (DQ.pfin P rs S d) (argF args) S) : DAt P g args S d :=
  dcalls_of_dwp hm hf hb hent hrs hok fun hw => dwp_mono c (pfin_fin hw hc) (h hw)
theorem go_at {P : Program} {g : FuncId} {args : List D} {S : St} {d : D} {K : D → St → Prop} (h : DAt P g args S d) (k : K d S) : DCalls P g args S K := h.mono fun _ _ hq => by rw [hq.1, hq.2]; exact k
def cmpI (a b : Int) : Int := if a < b then -1 else if b < a then 1 else 0
def cmpL : List UInt8 → List UInt8 → Int
  | [], [] => 0
  | [], _ :: _ => -1
  | _ :: _, [] => 1
  | x :: a, y :: b => if x = y then cmpL a b else cmpI x.toNat y.toNat
def cmpH (a b : H32) : Int := cmpL a.1 b.1
theorem ite_gt (a b : Int) : decide (a > b) = decide (b < a) := rfl
section
set_option maxRecDepth 200000
theorem nanB_d (a : UInt8) : DPure Tryd.prog 71 [bD a] (.v (.bool false)) := by
  refine dpure_of_dwp mixed Tryd.func71 rfl (fun _ _ => by kernel_rfl) (rs := [.tmp 2]) rfl (by kernel_rfl) trivial (fun S hS => ?_)
  (simp (disch := first | decide | omega | (simp only [nx]; first | done | omega)) only [go_sem, bD, bne_self_eq_false]; (repeat with_reducible refine aI ?_))
  refine ⟨?_, (by (repeat' first | assumption | exact St.Sub.refl _ | exact RowOk.sub (by assumption) (by assumption) | refine St.Sub.trans ?_ (RowOk.sub (by assumption) (by assumption)) | refine St.Sub.add ?_ ?_ _ | refine St.Sub.set ?_ ?_ ?_ _ | refine St.Sub.keep ?_ ?_ | refine St.WF.leave ?_ _ | refine St.WF.add ?_ _ | refine St.WF.set ?_ ?_ _ | refine St.WF.grow ?_ _ _ _ | refine St.WF.keep ?_ ?_ | (first | omega | (simp only [RowOk.lo, nx]; first | done | omega))))⟩
  rfl
theorem cmpB_d (a b : UInt8) : DPure Tryd.prog 56 [bD a, bD b] (.v (.int .i64 (cmpI a.toNat b.toNat))) := by
  refine dpure_of_dwp mixed Tryd.func56 rfl (fun _ _ => by kernel_rfl) (rs := [.tmp 4]) rfl (by kernel_rfl) trivial (fun S hS => ?_)
  (simp (disch := first | decide | omega | (simp only [nx]; first | done | omega)) only [go_sem]; (repeat with_reducible refine aI ?_))
  refine DCalls.of_pure (nanB_d a) ?_
  (simp (disch := first | decide | omega | (simp only [nx]; first | done | omega)) only [go_sem]; (repeat with_reducible refine aI ?_))
  refine DCalls.of_pure (nanB_d b) ?_
  (simp (disch := first | decide | omega | (simp only [nx]; first | done | omega)) only [go_sem, bD]; (repeat with_reducible refine aI ?_))
  by_cases h1 : (a.toNat : Int) < b.toNat
  · have b1 : decide ((a.toNat : Int) < b.toNat) = true := decide_eq_true h1
    (simp (disch := first | decide | omega | (simp only [nx]; first | done | omega)) only [go_sem, b1, bD]; (repeat with_reducible refine aI ?_))
    refine ⟨?_, (by (repeat' first | assumption | exact St.Sub.refl _ | exact RowOk.sub (by assumption) (by assumption) | refine St.Sub.trans ?_ (RowOk.sub (by assumption) (by assumption)) | refine St.Sub.add ?_ ?_ _ | refine St.Sub.set ?_ ?_ ?_ _ | refine St.Sub.keep ?_ ?_ | refine St.WF.leave ?_ _ | refine St.WF.add ?_ _ | refine St.WF.set ?_ ?_ _ | refine St.WF.grow ?_ _ _ _ | refine St.WF.keep ?_ ?_ | (first | omega | (simp only [RowOk.lo, nx]; first | done | omega))))⟩
    simp only [D.frz, cmpI, if_pos h1]
  · have b1 : decide ((a.toNat : Int) < b.toNat) = false := decide_eq_false h1
    by_cases h2 : (b.toNat : Int) < a.toNat
    · have b2 : decide ((b.toNat : Int) < a.toNat) = true := decide_eq_true h2
      (simp (disch := first | decide | omega | (simp only [nx]; first | done | omega)) only [go_sem, b1, b2, ite_gt, bD]; (repeat with_reducible refine aI ?_))
      refine ⟨?_, (by (repeat' first | assumption | exact St.Sub.refl _ | exact RowOk.sub (by assumption) (by assumption) | refine St.Sub.trans ?_ (RowOk.sub (by assumption) (by assumption)) | refine St.Sub.add ?_ ?_ _ | refine St.Sub.set ?_ ?_ ?_ _ | refine St.Sub.keep ?_ ?_ | refine St.WF.leave ?_ _ | refine St.WF.add ?_ _ | refine St.WF.set ?_ ?_ _ | refine St.WF.grow ?_ _ _ _ | refine St.WF.keep ?_ ?_ | (first | omega | (simp only [RowOk.lo, nx]; first | done | omega))))⟩
      simp only [D.frz, cmpI, if_neg h1, if_pos h2]
    · have b2 : decide ((b.toNat : Int) < a.toNat) = false := decide_eq_false h2
      (simp (disch := first | decide | omega | (simp only [nx]; first | done | omega)) only [go_sem, b1, b2, ite_gt, bD]; (repeat with_reducible refine aI ?_))
      refine ⟨?_, (by (repeat' first | assumption | exact St.Sub.refl _ | exact RowOk.sub (by assumption) (by assumption) | refine St.Sub.trans ?_ (RowOk.sub (by assumption) (by assumption)) | refine St.Sub.add ?_ ?_ _ | refine St.Sub.set ?_ ?_ ?_ _ | refine St.Sub.keep ?_ ?_ | refine St.WF.leave ?_ _ | refine St.WF.add ?_ _ | refine St.WF.set ?_ ?_ _ | refine St.WF.grow ?_ _ _ _ | refine St.WF.keep ?_ ?_ | (first | omega | (simp only [RowOk.lo, nx]; first | done | omega))))⟩
      simp only [D.frz, cmpI, if_neg h1, if_neg h2]
end
end Go.Proofs.YtonncfminojejaaDoor

namespace Go.Proofs.YtonncfminojejaaDoor
open Go.RowKit
structure WinB (S : St) (k off : Nat) (l : List UInt8) : Prop where
  ex : ∃ t cs, S.ob k = some (.box t cs) ∧ ∀ i (h : i < l.length), off + i < cs.length ∧ cs.getD (off + i) undefD = bD l[i]
theorem cmpL_drop (l m : List UInt8) (i : Nat) (h1 : i < l.length) (h2 : i < m.length) : cmpL (l.drop i) (m.drop i) = if l[i] = m[i] then cmpL (l.drop (i + 1)) (m.drop (i + 1)) else cmpI l[i].toNat m[i].toNat := by
  rw [List.drop_eq_getElem_cons h1, List.drop_eq_getElem_cons h2, cmpL]
theorem cmpI_zero (a b : UInt8) : (cmpI a.toNat b.toNat != 0) = !decide (a = b) := by
  unfold cmpI
  have he : a = b ↔ a.toNat = b.toNat := UInt8.toNat_inj.symm
  by_cases h1 : a.toNat < b.toNat
  · have : (a.toNat : Int) < b.toNat := by omega
    rw [if_pos this, decide_eq_false (fun h => by rw [he] at h; omega)]; rfl
  · by_cases h2 : b.toNat < a.toNat
    · have h3 : (b.toNat : Int) < a.toNat := by omega
      rw [if_neg (by omega), if_pos h3, decide_eq_false (fun h => by rw [he] at h; omega)]; rfl
    · rw [if_neg (by omega), if_neg (by omega), decide_eq_true (he.2 (by omega))]; rfl
section
set_option maxRecDepth 200000
set_option maxHeartbeats 4000000
theorem cmpL_at {S : St} {k off c k2 off2 c2 : Nat} {l m : List UInt8} (hl : WinB S k off l) (hm : WinB S k2 off2 m) (hll : l.length ≤ 1000000) (hml : m.length ≤ 1000000) : DAt Tryd.prog 44 [.win k off l.length c, .win k2 off2 m.length c2] S (.v (.int .i64 (cmpL l m))) := by
  refine dat_of_dwpL mixed Tryd.func44 rfl (fun _ _ => by kernel_rfl) (rs := [.tmp 4]) rfl (by kernel_rfl) (by trivial) (fun hS => ?_)
  obtain ⟨t1, cs1, hk1, hb1⟩ := hl.ex
  obtain ⟨t2, cs2, hk2, hb2⟩ := hm.ex
  (simp (disch := first | decide | omega | (simp only [nx]; first | done | omega)) only [go_sem]; (repeat with_reducible refine aI ?_))
  (refine dloop_st (fun t => List.contains [4, 5, 6, 7, 8, 11, 12, 13, 14, 15, 16, 17, 18, 19, 20, 21, 22, 23, 24, 25, 26, 27, 28, 29, 30] t) (by kernel_rfl) ?_ (l.length) (fun i f => i ≤ l.length ∧ f 11 = .v (.int .i64 (i : Nat)) ∧ (i ≤ m.length ∧ cmpL l m = cmpL (l.drop i) (m.drop i))) ?_ ?_; (exact (by (repeat' first | assumption | refine St.WF.leave ?_ _ | refine St.WF.add ?_ _ | refine St.WF.set ?_ ?_ _ | refine St.WF.grow ?_ _ _ _ | refine St.WF.keep ?_ ?_ | (first | omega | (simp only [RowOk.lo, nx]; first | done | omega))))); (exact ⟨(by omega), (by (first | (simp (disch := first | decide | omega | (simp only [nx]; first | done | omega)) only [go_sem]; first | done | rfl) | rfl)), (⟨Nat.zero_le _, rfl⟩)⟩); intro i g tn hn hT hg hI; obtain ⟨le, q11, hc⟩ := hI; have q0 := hg 0 rfl; have q1 := hg 1 rfl; have q9 := hg 9 rfl; have q10 := hg 10 rfl; simp (disch := first | decide | omega | (simp only [nx]; first | done | omega)) only [go_sem] at q0 q1 q9 q10; clear hg; have hn' := hn; try simp only [add_next, set_next, grow_next, leave_next, drop_next] at hn')
  obtain ⟨him, hce⟩ := hc
  by_cases hlt : i < l.length
  · have b1 : decide ((i : Int) < (l.length : Int)) = true := by simp; omega
    have w1 : IntKind.i64.wrap ((i : Int) + 1) = ((i + 1 : Nat) : Int) := IntWalk.i64_in _ ⟨by omega, by omega⟩
    obtain ⟨x1, x2⟩ := hb1 i hlt
    by_cases hmt : i < m.length
    · have b2 : decide ((i : Int) ≥ (m.length : Int)) = false := by simp; omega
      obtain ⟨y1, y2⟩ := hb2 i hmt
      rw [cmpL_drop l m i hlt hmt] at hce
      (simp (disch := first | decide | omega | (simp only [nx]; first | done | omega)) only [go_sem, q0, q1, q9, q10, q11, b1, b2, hk1, hk2, x2, y2, Nat.mul_one]; (repeat with_reducible refine aI ?_))
      refine DCalls.of_pure (cmpB_d l[i] m[i]) ?_
      (simp (disch := first | decide | omega | (simp only [nx]; first | done | omega)) only [go_sem, cmpI_zero]; (repeat with_reducible refine aI ?_))
      by_cases he : l[i] = m[i]
      · have b3 : (!decide (l[i] = m[i])) = false := by simp [he]
        rw [if_pos he] at hce
        (simp (disch := first | decide | omega | (simp only [nx]; first | done | omega)) only [go_sem, b3, q11, w1]; (repeat with_reducible refine aI ?_))
        (refine ⟨by omega, (by (repeat' first | assumption | exact St.Sub.refl _ | exact RowOk.sub (by assumption) (by assumption) | refine St.Sub.trans ?_ (RowOk.sub (by assumption) (by assumption)) | refine St.Sub.add ?_ ?_ _ | refine St.Sub.set ?_ ?_ ?_ _ | refine St.Sub.keep ?_ ?_ | refine St.WF.leave ?_ _ | refine St.WF.add ?_ _ | refine St.WF.set ?_ ?_ _ | refine St.WF.grow ?_ _ _ _ | refine St.WF.keep ?_ ?_ | (first | omega | (simp only [RowOk.lo, nx]; first | done | omega)))), ?_⟩; refine ⟨by omega, ?_, ?_⟩; all_goals (try (first | (simp (disch := first | decide | omega | (simp only [nx]; first | done | omega)) only [go_sem, w1]; first | done | rfl) | rfl)))
        exact ⟨by omega, hce⟩
      · have b3 : (!decide (l[i] = m[i])) = true := by simp [he]
        rw [if_neg he] at hce
        (simp (disch := first | decide | omega | (simp only [nx]; first | done | omega)) only [go_sem, b3]; (repeat with_reducible refine aI ?_))
        refine ⟨?_, (by (repeat' first | assumption | exact St.Sub.refl _ | exact RowOk.sub (by assumption) (by assumption) | refine St.Sub.trans ?_ (RowOk.sub (by assumption) (by assumption)) | refine St.Sub.add ?_ ?_ _ | refine St.Sub.set ?_ ?_ ?_ _ | refine St.Sub.keep ?_ ?_ | refine St.WF.leave ?_ _ | refine St.WF.add ?_ _ | refine St.WF.set ?_ ?_ _ | refine St.WF.grow ?_ _ _ _ | refine St.WF.keep ?_ ?_ | (first | omega | (simp only [RowOk.lo, nx]; first | done | omega))))⟩
        simp only [D.frz, hce]
    · have b2 : decide ((i : Int) ≥ (m.length : Int)) = true := by simp; omega
      (simp (disch := first | decide | omega | (simp only [nx]; first | done | omega)) only [go_sem, q0, q1, q9, q10, q11, b1, b2, hk1, hk2, x2, Nat.mul_one]; (repeat with_reducible refine aI ?_))
      refine ⟨?_, (by (repeat' first | assumption | exact St.Sub.refl _ | exact RowOk.sub (by assumption) (by assumption) | refine St.Sub.trans ?_ (RowOk.sub (by assumption) (by assumption)) | refine St.Sub.add ?_ ?_ _ | refine St.Sub.set ?_ ?_ ?_ _ | refine St.Sub.keep ?_ ?_ | refine St.WF.leave ?_ _ | refine St.WF.add ?_ _ | refine St.WF.set ?_ ?_ _ | refine St.WF.grow ?_ _ _ _ | refine St.WF.keep ?_ ?_ | (first | omega | (simp only [RowOk.lo, nx]; first | done | omega))))⟩
      rw [hce, List.drop_eq_getElem_cons hlt, List.drop_eq_nil_of_le (by omega : m.length ≤ i)]
      rfl
  · have b1 : decide ((i : Int) < (l.length : Int)) = false := by simp; omega
    by_cases hmt : l.length < m.length
    · have b2 : decide ((l.length : Int) < (m.length : Int)) = true := by simp; omega
      (simp (disch := first | decide | omega | (simp only [nx]; first | done | omega)) only [go_sem, q0, q1, q9, q10, q11, b1, b2]; (repeat with_reducible refine aI ?_))
      refine ⟨?_, (by (repeat' first | assumption | exact St.Sub.refl _ | exact RowOk.sub (by assumption) (by assumption) | refine St.Sub.trans ?_ (RowOk.sub (by assumption) (by assumption)) | refine St.Sub.add ?_ ?_ _ | refine St.Sub.set ?_ ?_ ?_ _ | refine St.Sub.keep ?_ ?_ | refine St.WF.leave ?_ _ | refine St.WF.add ?_ _ | refine St.WF.set ?_ ?_ _ | refine St.WF.grow ?_ _ _ _ | refine St.WF.keep ?_ ?_ | (first | omega | (simp only [RowOk.lo, nx]; first | done | omega))))⟩
      rw [hce, List.drop_eq_nil_of_le (by omega : l.length ≤ i), List.drop_eq_getElem_cons (by omega : i < m.length)]
      rfl
    · have b2 : decide ((l.length : Int) < (m.length : Int)) = false := by simp; omega
      (simp (disch := first | decide | omega | (simp only [nx]; first | done | omega)) only [go_sem, q0, q1, q9, q10, q11, b1, b2]; (repeat with_reducible refine aI ?_))
      refine ⟨?_, (by (repeat' first | assumption | exact St.Sub.refl _ | exact RowOk.sub (by assumption) (by assumption) | refine St.Sub.trans ?_ (RowOk.sub (by assumption) (by assumption)) | refine St.Sub.add ?_ ?_ _ | refine St.Sub.set ?_ ?_ ?_ _ | refine St.Sub.keep ?_ ?_ | refine St.WF.leave ?_ _ | refine St.WF.add ?_ _ | refine St.WF.set ?_ ?_ _ | refine St.WF.grow ?_ _ _ _ | refine St.WF.keep ?_ ?_ | (first | omega | (simp only [RowOk.lo, nx]; first | done | omega))))⟩
      rw [hce, List.drop_eq_nil_of_le (by omega : l.length ≤ i), List.drop_eq_nil_of_le (by omega : m.length ≤ i)]
      rfl
theorem cmpL_st {S : St} {k off c k2 off2 c2 : Nat} {l m : List UInt8} (hl : WinB S k off l) (hm : WinB S k2 off2 m) (hll : l.length ≤ 1000000) (hml : m.length ≤ 1000000) : DSt Tryd.prog 44 [.win k off l.length c, .win k2 off2 m.length c2] S (.v (.int .i64 (cmpL l m))) := fun T _ hT => by
  obtain ⟨t1, cs1, hk1, hb1⟩ := hl.ex
  obtain ⟨t2, cs2, hk2, hb2⟩ := hm.ex
  exact cmpL_at ⟨t1, cs1, hT _ _ hk1, hb1⟩ ⟨t2, cs2, hT _ _ hk2, hb2⟩ hll hml
theorem cmpH_st {S : St} {k off c k2 off2 c2 : Nat} (a b : H32) (hl : WinB S k off a.1) (hm : WinB S k2 off2 b.1) : DSt Tryd.prog 44 [.win k off 32 c, .win k2 off2 32 c2] S (.v (.int .i64 (cmpH a b))) := by
  have := cmpL_st (c := c) (c2 := c2) hl hm (by rw [a.2]; omega) (by rw [b.2]; omega)
  rwa [a.2, b.2] at this
theorem winB_hash {S : St} {k : Nat} {t : TypeId} (m : H32) (h : S.ob k = some (.box t (m.1.map bD))) : WinB S k 0 m.1 := ⟨t, m.1.map bD, h, fun i hi => by
  have := m.2
  refine ⟨by rw [List.length_map]; omega, ?_⟩
  rw [Nat.zero_add, List.getD_eq_getElem?_getD, List.getElem?_map, List.getElem?_eq_getElem hi]
  rfl⟩
end
end Go.Proofs.YtonncfminojejaaDoor

namespace Go.Proofs.YtonncfminojejaaDoor
open Go.RowKit
def valB : List UInt8 → Nat
  | [] => 0
  | x :: l => x.toNat * 256 ^ l.length + valB l
theorem valB_lt : ∀ l : List UInt8, valB l < 256 ^ l.length
  | [] => by simp [valB]
  | x :: l => by
    have ih := valB_lt l
    have hx : x.toNat < 256 := x.toNat_lt
    rw [valB, List.length_cons, Nat.pow_succ]
    have h1 : (x.toNat + 1) * 256 ^ l.length ≤ 256 * 256 ^ l.length := Nat.mul_le_mul_right _ (by omega)
    rw [Nat.add_mul, Nat.one_mul] at h1
    omega
theorem cmpL_val : ∀ a b : List UInt8, a.length = b.length → cmpL a b = cmpI (valB a) (valB b) ∧ (valB a = valB b → a = b)
  | [], [], _ => ⟨by simp [cmpL, cmpI, valB], fun _ => rfl⟩
  | [], _ :: _, h => by simp at h
  | _ :: _, [], h => by simp at h
  | x :: a, y :: b, h => by
    have hl : a.length = b.length := by simpa using h
    obtain ⟨i1, i2⟩ := cmpL_val a b hl
    have ha := valB_lt a
    have hb := valB_lt b
    rw [hl] at ha
    rw [cmpL, valB, valB, hl]
    by_cases hxy : x = y
    · subst hxy
      rw [if_pos rfl, i1]
      refine ⟨?_, fun h => ?_⟩
      · unfold cmpI
        by_cases h1 : (valB a : Int) < valB b
        · rw [if_pos h1, if_pos (by omega)]
        · by_cases h2 : (valB b : Int) < valB a
          · rw [if_neg h1, if_pos h2, if_neg (by omega), if_pos (by omega)]
          · rw [if_neg h1, if_neg h2, if_neg (by omega), if_neg (by omega)]
      · rw [i2 (by omega)]
    · rw [if_neg hxy]
      have hne : x.toNat ≠ y.toNat := fun h => hxy (UInt8.toNat_inj.1 h)
      rcases Nat.lt_or_gt_of_ne hne with h1 | h1
      · have h2 : (x.toNat + 1) * 256 ^ b.length ≤ y.toNat * 256 ^ b.length := Nat.mul_le_mul_right _ h1
        rw [Nat.add_mul, Nat.one_mul] at h2
        refine ⟨?_, fun h => by omega⟩
        unfold cmpI
        rw [if_pos (by omega), if_pos (by omega)]
      · have h2 : (y.toNat + 1) * 256 ^ b.length ≤ x.toNat * 256 ^ b.length := Nat.mul_le_mul_right _ h1
        rw [Nat.add_mul, Nat.one_mul] at h2
        refine ⟨?_, fun h => by omega⟩
        unfold cmpI
        rw [if_neg (by omega), if_pos (by omega), if_neg (by omega), if_pos (by omega)]
def valH (h : H32) : Nat := valB h.1
theorem valH_lt (h : H32) : valH h < 256 ^ 32 := by have := valB_lt h.1; rwa [h.2] at this
theorem valH_inj {a b : H32} (h : valH a = valH b) : a = b := Subtype.ext ((cmpL_val a.1 b.1 (a.2.trans b.2.symm)).2 h)
theorem cmpH_val (a b : H32) : cmpH a b = cmpI (valH a) (valH b) := (cmpL_val a.1 b.1 (a.2.trans b.2.symm)).1
def key (m : DMk) : Int := m.1 * (256 ^ 32 : Nat) + (valH m.2 : Nat)
theorem key_lt_iff (a b : DMk) : key a < key b ↔ a.1 < b.1 ∨ a.1 = b.1 ∧ valH a.2 < valH b.2 := by
  have ha := valH_lt a.2
  have hb := valH_lt b.2
  unfold key
  generalize (256 ^ 32 : Nat) = N at *
  constructor
  · intro h
    rcases Int.lt_trichotomy a.1 b.1 with h1 | h1 | h1
    · exact .inl h1
    · refine .inr ⟨h1, ?_⟩
      rw [h1] at h
      omega
    · exfalso
      have h2 : (b.1 + 1) * (N : Int) ≤ a.1 * N := Int.mul_le_mul_of_nonneg_right (by omega) (by omega)
      rw [Int.add_mul, Int.one_mul] at h2
      omega
  · rintro (h1 | ⟨h1, h2⟩)
    · have h2 : (a.1 + 1) * (N : Int) ≤ b.1 * N := Int.mul_le_mul_of_nonneg_right (by omega) (by omega)
      rw [Int.add_mul, Int.one_mul] at h2
      omega
    · rw [h1]; omega
theorem key_inj {a b : DMk} (h : key a = key b) : a = b := by
  have h1 := mt (key_lt_iff a b).2 (by omega)
  have h2 := mt (key_lt_iff b a).2 (by omega)
  simp only [not_or, not_and] at h1 h2
  have h3 : a.1 = b.1 := by omega
  exact Prod.ext h3 (valH_inj (by have := h1.2 h3; have := h2.2 h3.symm; omega))
theorem cmpI_neg (a b : Int) : cmpI a b < 0 ↔ a < b := by
  unfold cmpI
  split
  · simp_all
  · split <;> simp_all
def ltM (a b : DMk) : Bool := decide (key a < key b)
def Asc (l : List DMk) : Prop := l.Pairwise fun a b => key a < key b
def ahead (l : List DMk) (m : DMk) : Nat := l.findIdx fun x => !ltM x m
def insM (l : List DMk) (m : DMk) : List DMk := if l[ahead l m]? = some m then l else l.take (ahead l m) ++ m :: l.drop (ahead l m)
def lineM (l : List DMk) : List DMk := l.foldl insM []
theorem ahead_le (l : List DMk) (m : DMk) : ahead l m ≤ l.length := List.findIdx_le_length
theorem insM_len (l : List DMk) (m : DMk) : (insM l m).length ≤ l.length + 1 := by
  have := ahead_le l m
  unfold insM
  split
  · omega
  · simp; omega
theorem ahead_lt {l : List DMk} {m : DMk} {i : Nat} (h : i < ahead l m) (hi : i < l.length) : key l[i] < key m := by
  have := List.not_of_lt_findIdx h
  simpa [ltM] using this
theorem ahead_ge {l : List DMk} {m : DMk} (h : ahead l m < l.length) : ¬ key l[ahead l m] < key m := by
  have := List.findIdx_getElem (w := h)
  intro hk
  have h2 : ltM (l[List.findIdx (fun x => !ltM x m) l]'h) m = true := decide_eq_true hk
  simp [h2] at this
theorem mem_insM {l : List DMk} {m x : DMk} : x ∈ insM l m ↔ x ∈ l ∨ x = m := by
  unfold insM
  split
  · rename_i h
    have := List.mem_of_getElem? h
    constructor
    · exact .inl
    · rintro (h | rfl)
      · exact h
      · exact this
  · rw [List.mem_append, List.mem_cons]
    conv => rhs; rw [← List.take_append_drop (ahead l m) l, List.mem_append]
    constructor
    · rintro (h | h | h)
      · exact .inl (.inl h)
      · exact .inr h
      · exact .inl (.inr h)
    · rintro ((h | h) | h)
      · exact .inl h
      · exact .inr (.inr h)
      · exact .inr (.inl h)
theorem asc_insM {l : List DMk} (h : Asc l) (m : DMk) : Asc (insM l m) := by
  unfold insM
  split
  · exact h
  · rename_i hn
    have hlt : ∀ a ∈ l.take (ahead l m), key a < key m := fun a ha => by
      obtain ⟨i, hi, rfl⟩ := List.getElem_of_mem ha
      have hi' : i < ahead l m ∧ i < l.length := by simp at hi; omega
      rw [List.getElem_take]
      exact ahead_lt hi'.1 hi'.2
    have hgt : ∀ b ∈ l.drop (ahead l m), key m < key b := fun b hb => by
      obtain ⟨i, hi, rfl⟩ := List.getElem_of_mem hb
      rw [List.length_drop] at hi
      have h0 : ahead l m < l.length := by omega
      have h1 : key m < key l[ahead l m] := by
        have h2 := ahead_ge h0
        rcases Int.lt_trichotomy (key l[ahead l m]) (key m) with h3 | h3 | h3
        · exact absurd h3 h2
        · exact absurd (by rw [List.getElem?_eq_getElem h0, key_inj h3]) hn
        · exact h3
      rw [List.getElem_drop]
      rcases Nat.eq_zero_or_pos i with rfl | hi0
      · simpa using h1
      · have := (List.pairwise_iff_getElem.1 h) (ahead l m) (ahead l m + i) h0 (by omega) (by omega)
        omega
    refine List.pairwise_append.2 ⟨h.sublist (List.take_sublist _ _), List.pairwise_cons.2 ⟨hgt, h.sublist (List.drop_sublist _ _)⟩, fun a ha b hb => ?_⟩
    rcases List.mem_cons.1 hb with rfl | hb
    · exact hlt a ha
    · have := hlt a ha; have := hgt b hb; omega
theorem foldl_insM : ∀ (l acc : List DMk), Asc acc → Asc (l.foldl insM acc) ∧ ∀ m, m ∈ l.foldl insM acc ↔ m ∈ acc ∨ m ∈ l
  | [], acc, h => ⟨h, fun m => by simp⟩
  | x :: l, acc, h => by
    obtain ⟨h1, h2⟩ := foldl_insM l (insM acc x) (asc_insM h x)
    refine ⟨h1, fun m => ?_⟩
    rw [List.foldl_cons, h2, mem_insM, List.mem_cons]
    constructor
    · rintro ((h | h) | h)
      · exact .inl h
      · exact .inr (.inl h)
      · exact .inr (.inr h)
    · rintro (h | h | h)
      · exact .inl (.inl h)
      · exact .inl (.inr h)
      · exact .inr h
theorem asc_lineM (l : List DMk) : Asc (lineM l) := (foldl_insM l [] List.Pairwise.nil).1
theorem mem_lineM (l : List DMk) (m : DMk) : m ∈ lineM l ↔ m ∈ l := by
  have := (foldl_insM l [] List.Pairwise.nil).2 m
  simpa [lineM] using this
theorem foldl_insM_len : ∀ (l acc : List DMk), (l.foldl insM acc).length ≤ acc.length + l.length
  | [], acc => by simp
  | x :: l, acc => by
    have h1 := foldl_insM_len l (insM acc x)
    have h2 := insM_len acc x
    rw [List.foldl_cons, List.length_cons]
    omega
theorem lineM_len (l : List DMk) : (lineM l).length ≤ l.length := by have := foldl_insM_len l []; rwa [List.length_nil, Nat.zero_add] at this
theorem rev_ind {α : Type} {p : List α → Prop} (h0 : p []) (h1 : ∀ l x, p l → p (l ++ [x])) (l : List α) : p l := by
  have key : ∀ r : List α, p r.reverse := fun r => by
    induction r with
    | nil => exact h0
    | cons x r ih => rw [List.reverse_cons]; exact h1 _ _ ih
  simpa using key l.reverse
def pack1 (acc : List DMk) (x : DMk) : List DMk := if acc.getLast? = some x then acc else acc ++ [x]
def packM (l : List DMk) : List DMk := l.foldl pack1 []
end Go.Proofs.YtonncfminojejaaDoor

namespace Go.Proofs.YtonncfminojejaaDoor
open Go.RowKit Go.Sort Go.Shelf
section
variable {P : Program} {base : Nat} {S : St} {η : Names} {w : World}
theorem goes_ahead (h : Mem P base S η w) : ∀ n, Goes P base S η w S η (Sort.ahead w n)
  | 0 => Goes.refl h
  | n + 1 => by
    have := goes_ahead h n
    rw [← ahead_drew]
    exact this.trans (goes_drew this.mem)
theorem goes_grow (h : Mem P base S η w) : ∀ os : List Obj, Goes P base S η w S η (grow w os.toArray) := by
  intro os
  induction os generalizing w with
  | nil => simpa using Goes.refl h
  | cons o os ih =>
    have h1 := goes_new h o
    have := h1.trans (ih h1.mem)
    rw [alloc_eq_grow, grow_grow] at this
    simpa using this
theorem mapBlock_setRow {w : World} {b : Nat} {vs : List Value} {t : TypeId} {fr : Nat × Nat} (hb : w.heap[b]? = some (.cells vs.toArray t fr)) (f : Array Value → Array Value) : mapBlock w b f = w.setRow b (f vs.toArray) := by
  unfold mapBlock World.setRow
  congr 1
  apply Array.ext_getElem?
  intro k
  simp only [Array.getElem?_modify]
  by_cases hk : b = k
  · subst hk
    simp only [if_true, hb, Option.map_some, onCells]
  · simp [hk]
theorem putCells_list {off : Nat} {F vs : List Value} (h : off + F.length ≤ vs.length) : putCells id off F.toArray vs.toArray = (vs.take off ++ F ++ vs.drop (off + F.length)).toArray := by
  apply Array.ext_getElem?
  intro k
  simp only [putCells, Array.getElem?_mapIdx, List.getElem?_toArray, List.size_toArray, id_eq]
  by_cases h1 : k < off
  · rw [List.append_assoc, List.getElem?_append_left (by simp; omega), List.getElem?_take_of_lt h1]
    cases vs[k]? with
    | none => rfl
    | some y => rw [Option.map_some, if_neg (by omega)]
  · by_cases h2 : k < off + F.length
    · rw [List.getElem?_append_left (by simp; omega), List.getElem?_append_right (by simp; omega), List.length_take, Nat.min_eq_left (by omega), List.getElem?_eq_getElem (by omega : k - off < F.length), List.getElem?_eq_getElem (by omega : k < vs.length), Option.map_some, if_pos (by omega)]
      have h3 : k - off < F.toArray.size := by simp; omega
      rw [getElem!_pos F.toArray (k - off) h3]
      simp
    · rw [List.getElem?_append_right (by simp; omega), List.getElem?_drop]
      simp only [List.length_append, List.length_take]
      rw [show off + F.length + (k - (min off vs.length + F.length)) = k by omega]
      cases vs[k]? with
      | none => rfl
      | some y => rw [Option.map_some, if_neg (by omega)]
variable {α : Type} [Inhabited α]
theorem flatMap_get {enc : α → List Value} {z : Nat} (hz : ∀ x, (enc x).length = z) : ∀ (l : List α) (t : Nat), t < l.length * z → (l.flatMap enc)[t]? = (enc (l.getD (t / z) default))[t % z]?
  | [], t, h => by simp at h
  | x :: l, t, h => by
    have z0 : 0 < z := by rcases Nat.eq_zero_or_pos z with h' | h'; · subst h'; simp at h
                          · exact h'
    rw [List.flatMap_cons]
    by_cases h1 : t < z
    · rw [List.getElem?_append_left (by rw [hz]; exact h1), Nat.div_eq_of_lt h1, Nat.mod_eq_of_lt h1]
      rfl
    · obtain ⟨u, rfl⟩ : ∃ u, t = u + z := ⟨t - z, by omega⟩
      rw [List.getElem?_append_right (by rw [hz]; omega), hz, Nat.add_sub_cancel, flatMap_get hz l u (by simp only [List.length_cons, Nat.add_mul, Nat.one_mul] at h; omega), Nat.add_mod_right, Nat.add_div_right _ z0]
      rfl
theorem flatMap_len {α : Type} {enc : α → List Value} {z : Nat} (hz : ∀ x, (enc x).length = z) : ∀ l : List α, (l.flatMap enc).length = l.length * z
  | [] => by simp
  | x :: l => by rw [List.flatMap_cons, List.length_append, hz, flatMap_len hz l, List.length_cons, Nat.add_mul, Nat.one_mul, Nat.add_comm]
theorem flatK_list {enc : α → List Value} {z : Nat} (hz : ∀ x, (enc x).length = z) (l : List α) : flatK enc z l.toArray = (l.flatMap enc).toArray := by
  apply Array.ext_getElem?
  intro t
  by_cases h : t < l.length * z
  · have z0 : 0 < z := by rcases Nat.eq_zero_or_pos z with h' | h'; · subst h'; simp at h
                          · exact h'
    have hm : t % z < z := Nat.mod_lt _ z0
    have hd : t / z < l.length := Nat.div_lt_of_lt_mul (by rw [Nat.mul_comm]; exact h)
    rw [List.getElem?_toArray (xs := l.flatMap enc), flatMap_get hz l t h]
    simp only [flatK, Array.getElem?_map, Array.getElem?_range, List.size_toArray, if_pos h, Option.map_some]
    rw [getElem!_pos l.toArray (t / z) (by simpa using hd), List.getD_eq_getElem?_getD, List.getElem?_eq_getElem hd]
    simp only [Option.getD_some, List.getElem_toArray]
    rw [getElem!_pos _ (t % z) (by rw [hz]; exact hm), List.getElem?_eq_getElem (by rw [hz]; exact hm)]
  · rw [Array.getElem?_eq_none (by rw [size_flatK]; simpa using Nat.le_of_not_lt h), List.getElem?_toArray, List.getElem?_eq_none (by rw [flatMap_len hz]; omega)]
theorem repL_vs {X : Nat → Nat → Prop} : ∀ {us vs : List Value}, RepL P w η X (us.map D.v) vs → vs = us
  | [], vs, h => by simpa only [List.map_nil, RepL] using h
  | u :: us, vs, h => by
    simp only [List.map_cons, RepL, Rep] at h
    obtain ⟨x, xs, rfl, rfl, h3⟩ := h
    rw [repL_vs h3]
theorem repL_plain {X : Nat → Nat → Prop} : ∀ us : List Value, RepL P w η X (us.map D.v) us
  | [] => by simp only [List.map_nil, RepL]
  | u :: us => by simp only [List.map_cons, RepL, Rep]; exact ⟨u, us, rfl, rfl, repL_plain us⟩
theorem repL_split {X : Nat → Nat → Prop} : ∀ {l m : List D} {vs : List Value}, RepL P w η X (l ++ m) vs → RepL P w η X l (vs.take l.length) ∧ RepL P w η X m (vs.drop l.length)
  | [], m, vs, h => by simpa only [List.nil_append, List.length_nil, List.take_zero, List.drop_zero, RepL, true_and] using h
  | d :: l, m, vs, h => by
    simp only [List.cons_append, RepL] at h
    obtain ⟨x, xs, rfl, h2, h3⟩ := h
    have := repL_split h3
    simp only [List.length_cons, List.take_succ_cons, List.drop_succ_cons, RepL]
    exact ⟨⟨x, _, rfl, h2, this.1⟩, this.2⟩
theorem flat_enc {α : Type} {enc : α → List Value} {e : α → D} (he : ∀ x, (e x).cells = (enc x).map D.v) : ∀ l : List α, flat (l.map e) = (l.flatMap enc).map D.v
  | [] => rfl
  | x :: l => by
    have := flat_enc he l
    simp only [flat] at this ⊢
    rw [List.map_cons, List.flatMap_cons, List.flatMap_cons, List.map_append, this, he]
theorem sorted_goes (hM : Mem P base S η w) {enc : α → List Value} {z : Nat} (hz : ∀ x, (enc x).length = z) (h1 : ∀ x, ∀ v ∈ enc x, v.oneCell' = true) {e : α → D} (he : ∀ x, (e x).cells = (enc x).map D.v) {k b : Nat} {t : TypeId} {A B : List D} {l l' : List α} (hl : l'.length = l.length)
    (hk : S.ob k = some (.box t (A ++ flat (l.map e) ++ B))) (hb : η k = some (some b)) (n : Nat) (os : Array Obj) :
    HoldsK enc z w b A.length l.toArray ∧ Goes P base S η w (S.set k (.box t (A ++ flat (l'.map e) ++ B))) η (sortWorldK enc z w b A.length n l'.toArray os) := by
  obtain ⟨vs, g1, g2, g3⟩ := hM.box k t _ b hk hb
  rw [flat_enc he, List.append_assoc] at g2
  obtain ⟨s1, s2⟩ := repL_split g2
  obtain ⟨s3, s4⟩ := repL_split s2
  rw [List.length_map, flatMap_len hz] at s3 s4
  have hF := repL_vs s3
  have hlen := g2.length
  simp only [List.length_append, List.length_map, flatMap_len hz] at hlen
  have hA : (vs.take A.length).length = A.length := by rw [List.length_take]; omega
  constructor
  · unfold HoldsK
    rw [flatK_list hz]
    intro i hi
    have hi' : i < l.length * z := by simpa [flatMap_len hz] using hi
    have hget : vs[A.length + i]? = (l.flatMap enc)[i]? := by
      rw [← hF, List.getElem?_take_of_lt hi', List.getElem?_drop]
    constructor
    · simp only [World.cell?, g1, Option.isSome_none, Bool.false_eq_true, if_false, List.getElem?_toArray, id_eq]
      rw [hget, getElem!_pos _ i hi, List.getElem?_eq_getElem (by simpa using hi)]
      simp
    · simp [World.frozen?, g1]
  · have hfit : A.length + (l'.flatMap enc).length ≤ vs.length := by rw [flatMap_len hz, hl]; omega
    have e1 : sortWorldK enc z w b A.length n l'.toArray os = grow (Sort.ahead (w.setRow b (vs.take A.length ++ l'.flatMap enc ++ vs.drop (A.length + (l'.flatMap enc).length)).toArray) n) os := by
      unfold sortWorldK putRowK
      rw [flatK_list hz]
      have : putRow id (Sort.ahead w n) b A.length (l'.flatMap enc).toArray = Sort.ahead (putRow id w b A.length (l'.flatMap enc).toArray) n := rfl
      rw [this]
      unfold putRow
      rw [mapBlock_setRow g1, putCells_list hfit]
    rw [e1]
    have G := goes_set hM (cs' := A ++ flat (l'.map e) ++ B) (vs' := vs.take A.length ++ l'.flatMap enc ++ vs.drop (A.length + (l'.flatMap enc).length)) hk hb (by rw [flat_enc he, flat_enc he]; simp [flatMap_len hz, hl]) (by
        rw [flat_enc he]
        refine RepL.append (RepL.append s1 (repL_plain _)) ?_
        rw [flatMap_len hz, hl]
        rw [List.drop_drop] at s4
        exact s4) (fun x hx => by
        simp only [List.mem_append, List.mem_flatMap] at hx
        rcases hx with (hx | ⟨y, _, hx⟩) | hx
        · exact g3 x (List.mem_of_mem_take hx)
        · exact h1 y x hx
        · exact g3 x (List.mem_of_mem_drop hx))
    have G2 := G.trans (goes_ahead G.mem n)
    exact G2.trans (by simpa using goes_grow G2.mem os.toList)
end
end Go.Proofs.YtonncfminojejaaDoor

namespace Go.Proofs.YtonncfminojejaaDoor
open Go.RowKit Go.Sort Go.Shelf
section
variable {P : Program} {ρ : Ren} {S : St} {α : Type} [Inhabited α]
theorem cmp_lays {α : Type} (hmo : mo = true) {enc : α → List Value} (h1 : ∀ x, ∀ v ∈ enc x, v.oneCell' = true) {e : α → D} (he : ∀ x, e x = .agg ((enc x).map D.v)) {cf : α → α → Int} {g : FuncId}
    (eg : ∀ args w, (callFunc g args).run P w = .ok (.enter g args) w) (hcmp : ∀ x y, DPure P g [e x, e y] (.v (.int .i64 (cf x y)))) {W : World} (hg : GlobOk W.heap.size W) (x y : α) :
    Calls P g (#[.agg (enc x).toArray, .agg (enc y).toArray] ++ #[]) W fun e w' => e = .returned (.int .i64 (cf x y)) ∧ ∃ q os', w' = grow (W.drewN q) os' := by
  have hr : RepL P W (fun _ => none) (Fix P St.nil fun _ => none) [e x, e y] [.agg (enc x).toArray, .agg (enc y).toArray] := by
    rw [he, he]
    simp only [RepL, Rep]
    exact ⟨_, _, rfl, ⟨_, rfl, repL_plain _, h1 x⟩, _, _, rfl, ⟨_, rfl, repL_plain _, h1 y⟩, rfl⟩
  rw [Array.append_empty]
  rcases hcmp x y St.nil W.heap.size _ W _ (mem_nil W hg) hr with ⟨_, k⟩ | ⟨d, S', η', u, w', k, _⟩
  · refine k.mono fun _ w' ⟨d, S', η', u, ⟨h1, _⟩, h2, h3, h4⟩ => ?_
    subst h1
    simp only [Rep] at h3
    subst h3
    refine ⟨h2, ?_⟩
    obtain ⟨p, hp⟩ := regrown_of_below h4.below
    have hd := h4.drawn hmo
    have hd2 : w'.drawn = p.d := by rw [hp]; rfl
    refine ⟨p.d - W.drawn, p.os, ?_⟩
    rw [hp]
    congr 1
    unfold redrawn World.drewN
    rw [show W.drawn + (p.d - W.drawn) = p.d by omega]
  · rw [eg] at k
    injection k with k
    cases k
theorem perm_of_permIn {d d' : Array α} (h : PermIn 0 d.size d d') : d'.toList.Perm d.toList := by
  obtain ⟨hs, _, hp⟩ := h
  have e1 : d.extract 0 d.size = d := by simp
  have e2 : d'.extract 0 d.size = d' := by rw [← hs]; simp
  rwa [e1, e2] at hp
theorem pairwise_of_sortedIn {lt : α → α → Bool} {n : Nat} {d : Array α} (hn : n = d.size) (h : SortedIn lt 0 n d) : d.toList.Pairwise fun a b => lt b a = false := by
  rw [List.pairwise_iff_getElem]
  intro i j hi hj hij
  have := h i j (Nat.zero_le _) hij (by rw [hn]; simpa using hj)
  rw [getElem!_pos d i (by simpa using hi), getElem!_pos d j (by simpa using hj)] at this
  simpa using this
theorem dsort (hmo : mo = true) (L : SlLaysF0.n6 P ρ) {z : Nat} (aE : ∀ w, (isAgg (ρ.t 24)).run P w = .ok true w) (zE : ∀ w, (Go.sizeOf (ρ.t 24)).run P w = .ok z w) (hent : ∀ vs w, (callFunc (ρ.f 6) vs).run P w = .ok (.enter (ρ.f 6) vs) w)
    {enc : α → List Value} (hz : ∀ x, (enc x).length = z) (h1 : ∀ x, ∀ v ∈ enc x, v.oneCell' = true) {e : α → D} (he : ∀ x, e x = .agg ((enc x).map D.v)) {cf : α → α → Int} (hO : SWO (ltOf cf)) {g : FuncId}
    (eg : ∀ args w, (callFunc g args).run P w = .ok (.enter g args) w) (hcmp : ∀ x y, DPure P g [e x, e y] (.v (.int .i64 (cf x y)))) {k c : Nat} {t : TypeId} {A B : List D} {l : List α} (hk : S.ob k = some (.box t (A ++ flat (l.map e) ++ B))) (hsz : l.length ≤ 1000000) :
    DCalls P (ρ.f 6) [.win k A.length l.length c, .fn (.func g) [] []] S (fun d T => d = .tup [] ∧ ∃ l' : List α, l'.Perm l ∧ l'.Pairwise (fun a b => ltOf cf b a = false) ∧ T = S.set k (.box t (A ++ flat (l'.map e) ++ B))) := by
  intro base η w vs hM hr
  simp only [RepL] at hr
  obtain ⟨x, xs, rfl, hx, y, ys, rfl, hy, rfl⟩ := hr
  obtain ⟨b, vs0, rfl, hb, hheap, -, -, -, -⟩ := win_live hM hk hx
  simp only [Rep, RepL] at hy
  obtain ⟨us, vs1, rfl, rfl, rfl⟩ := hy
  have hcells : ∀ x, (e x).cells = (enc x).map D.v := fun x => by rw [he]; rfl
  refine .inl ⟨hent _ _, ?_⟩
  have hblk := (hM.in_ k b hb).2
  have H := (sorted_goes hM hz h1 hcells (l' := l) rfl hk hb 0 #[]).1
  have hC : CmpLays P g #[] enc z cf b A.length l.toArray.size w := fun m os dk hdk x y => by
    have G := (sorted_goes hM hz h1 hcells (l' := dk.toList) (by simpa using hdk) hk hb m os).2
    rw [Array.toArray_toList] at G
    exact cmp_lays hmo h1 he eg hcmp (fun p hp => ⟨Nat.lt_of_lt_of_le (G.mem.glob p hp).1 G.mem.base_, (G.mem.glob p hp).2⟩) x y
  have key := AnyQ.slices_SortFunc L z aE zE enc hz h1 cf hO g #[] b A.length c l.toArray w eg hC H hblk (by simp; omega)
  rw [List.size_toArray] at key
  refine key.mono ?_
  rintro e' w' ⟨rfl, d', n, os, hp, hs, rfl⟩
  have hp' := perm_of_permIn (d := l.toArray) (by simpa using hp)
  have hl' : d'.toList.length = l.length := by simpa using hp'.length_eq
  have G := (sorted_goes hM hz h1 hcells (l' := d'.toList) hl' hk hb n os).2
  rw [Array.toArray_toList] at G
  exact ⟨.tup [], _, η, .tuple #[], ⟨rfl, d'.toList, by simpa using hp', pairwise_of_sortedIn (by simpa using hl'.symm) hs, rfl⟩, rfl, by simp only [Rep, RepL]; exact ⟨[], rfl, rfl⟩, G⟩
end
end Go.Proofs.YtonncfminojejaaDoor

namespace Go.Proofs.YtonncfminojejaaDoor
open Go.RowKit Go.Sort Go.Shelf
theorem bitsLen_d {P : Program} {ρ : Ren} (L : SlLaysF0.n6 P ρ) (hent : ∀ vs w, (callFunc (ρ.f 15) vs).run P w = .ok (.enter (ρ.f 15) vs) w) (n : Nat) (hn : n < 4611686018427387904) : DPure P (ρ.f 15) [.v (.int .u64 (n : Int))] (.v (.int .i64 (Lib.bitLen n : Nat))) := fun S base η w vs hM hr => by
  simp only [RepL, Rep] at hr
  obtain ⟨x, xs, rfl, rfl, rfl⟩ := hr
  have h := Any.bits_Len (SlLaysF0.n15.bits (P := P) (ρ := ρ) { L with }) (n : Int) w (by omega) (by omega)
  rw [Int.toNat_natCast] at h
  exact .inl ⟨hent _ _, h.mono fun _ _ ⟨h1, h2⟩ => by subst h2; exact ⟨_, S, η, _, ⟨rfl, rfl⟩, h1, by simp only [Rep], Goes.refl hM⟩⟩
section
set_option maxRecDepth 200000
set_option maxHeartbeats 4000000
variable {S : St}
theorem ob_self {S : St} {k : Nat} {o : Ob} (h : S.ob k = some o) : S.set k o = S := by
  cases S with
  | mk n ob =>
    simp only [St.set]
    congr 1
    funext j
    by_cases e : j = k
    · subst e; rw [if_pos rfl]; exact h.symm
    · rw [if_neg e]
end
end Go.Proofs.YtonncfminojejaaDoor

namespace Go.Proofs.YtonncfminojejaaDoor
open Go.ChangeShapes Go.WideShapes Go.ChangeAt Go.RowKit Go.Deep Go.Joins
section
set_option maxRecDepth 20000
variable {H : Type} {enc : TypeId × Value → H} {w : World}
theorem hash_of {fuel : Nat} {cs : List Value} {x : DataW H × List MemPlace} (h : DataW.trod enc Tryd.prog w 0 (fun _ => true) true fuel 37 cs = some x) : ∃ m : H32, cs = m.1.map bV := by
  obtain ⟨l, h1, h2⟩ := open_u8array Tryd.underlying37 Tryd.underlying5 (by kernel_rfl) (by kernel_rfl) h
  exact ⟨⟨l, h1⟩, h2⟩
theorem bV_one (h : H32) : ∀ v ∈ h.1.map bV, v.oneCell' = true := fun v hv => by
  obtain ⟨b, _, rfl⟩ := List.mem_map.1 hv
  rfl
theorem encH_vs (m : H32) : encH m = .agg ((m.1.map bV).map D.v) := by
  simp only [encH, List.map_map]
  rfl
theorem rep_hash (m : H32) (η : Names) (X : Nat → Nat → Prop) : Rep Tryd.prog w η X (encH m) (.agg (m.1.map bV).toArray) := by
  rw [encH_vs]
  simp only [Rep]
  exact ⟨_, rfl, repL_plain _, bV_one m⟩
end
end Go.Proofs.YtonncfminojejaaDoor

namespace Go.Proofs.YtonncfminojejaaDoor
open Go.RowKit
def hk (h : H32) : Int := ((valH h : Nat) : Int)
theorem hk_inj {a b : H32} (h : hk a = hk b) : a = b := valH_inj (by unfold hk at h; omega)
def ltH (a b : H32) : Bool := decide (hk a < hk b)
theorem ltOf_cmpH : ltOf cmpH = ltH := by
  funext a b
  unfold ltOf ltH
  rw [cmpH_val]
  congr 1
  exact propext (cmpI_neg _ _)
theorem swo_cmpH : Go.Sort.SWO (ltOf cmpH) := by
  rw [ltOf_cmpH]
  exact ⟨fun x => by simp [ltH], fun x y z h1 h2 => by simp [ltH] at *; omega, fun x y z h1 h2 => by simp [ltH] at *; omega⟩
def AscH (l : List H32) : Prop := l.Pairwise fun a b => hk a < hk b
theorem ascH_ext : ∀ {a b : List H32}, AscH a → AscH b → (∀ m, m ∈ a ↔ m ∈ b) → a = b
  | [], [], _, _, _ => rfl
  | [], y :: b, _, _, h => absurd ((h y).2 (List.mem_cons_self ..)) (by simp)
  | x :: a, [], _, _, h => absurd ((h x).1 (List.mem_cons_self ..)) (by simp)
  | x :: a, y :: b, ha, hb, h => by
    obtain ⟨a1, a2⟩ := List.pairwise_cons.1 ha
    obtain ⟨b1, b2⟩ := List.pairwise_cons.1 hb
    have hxy : x = y := by
      rcases List.mem_cons.1 ((h x).1 (List.mem_cons_self ..)) with e | e
      · exact e
      · rcases List.mem_cons.1 ((h y).2 (List.mem_cons_self ..)) with e' | e'
        · exact e'.symm
        · have := a1 y e'; have := b1 x e; omega
    subst hxy
    congr 1
    refine ascH_ext a2 b2 fun m => ⟨fun hm => ?_, fun hm => ?_⟩
    · rcases List.mem_cons.1 ((h m).1 (List.mem_cons_of_mem _ hm)) with e | e
      · subst e; have := a1 m hm; omega
      · exact e
    · rcases List.mem_cons.1 ((h m).2 (List.mem_cons_of_mem _ hm)) with e | e
      · subst e; have := b1 m hm; omega
      · exact e
def pack1H (acc : List H32) (x : H32) : List H32 := if acc.getLast? = some x then acc else acc ++ [x]
def packH (l : List H32) : List H32 := l.foldl pack1H []
theorem packH_snoc (l : List H32) (x : H32) : packH (l ++ [x]) = pack1H (packH l) x := by simp [packH]
theorem packH_last (l : List H32) : (packH l).getLast? = l.getLast? := by
  rcases List.eq_nil_or_concat l with rfl | ⟨l, x, rfl⟩
  · rfl
  · rw [List.concat_eq_append, packH_snoc, List.getLast?_append]
    unfold pack1H
    split
    · rename_i h; rw [h]; rfl
    · simp
theorem packH_take (l : List H32) (i : Nat) (h : i + 1 < l.length) : packH (l.take (i + 2)) = if l[i] = l[i + 1] then packH (l.take (i + 1)) else packH (l.take (i + 1)) ++ [l[i + 1]] := by
  rw [List.take_succ_eq_append_getElem h, packH_snoc]
  unfold pack1H
  have e : (packH (l.take (i + 1))).getLast? = some l[i] := by
    rw [packH_last, List.take_succ_eq_append_getElem (by omega), List.getLast?_append]
    simp
  rw [e]
  by_cases h2 : l[i] = l[i + 1]
  · rw [if_pos (by rw [h2]), if_pos h2]
  · rw [if_neg (fun h => h2 (Option.some.inj h)), if_neg h2]
theorem packH_len (l : List H32) : (packH l).length ≤ l.length := by
  induction l using rev_ind with
  | h0 => simp [packH]
  | h1 l x ih => ?_
  · rw [packH_snoc]
    unfold pack1H
    split
    · simp; omega
    · simp; omega
theorem packH_mem (l : List H32) (m : H32) : m ∈ packH l ↔ m ∈ l := by
  induction l using rev_ind with
  | h0 => simp [packH]
  | h1 l x ih => ?_
  · rw [packH_snoc, List.mem_append, List.mem_singleton]
    unfold pack1H
    split
    · rename_i h
      have : x ∈ packH l := List.mem_of_getLast? h
      rw [ih]
      constructor
      · exact .inl
      · rintro (h | rfl)
        · exact h
        · exact ih.1 this
    · rw [List.mem_append, List.mem_singleton, ih]
theorem packH_asc (l : List H32) (h : l.Pairwise fun a b => ltH b a = false) : AscH (packH l) := by
  induction l using rev_ind with
  | h0 => exact List.Pairwise.nil
  | h1 l x ih => ?_
  · obtain ⟨h1, _, h3⟩ := List.pairwise_append.1 h
    have ih := ih h1
    rw [packH_snoc]
    unfold pack1H
    split
    · exact ih
    · rename_i hn
      refine List.pairwise_append.2 ⟨ih, List.pairwise_singleton _ _, fun a ha b hb => ?_⟩
      obtain rfl := List.mem_singleton.1 hb
      have h4 := h3 a ((packH_mem l a).1 ha) b (List.mem_singleton.2 rfl)
      have h5 : ¬ hk b < hk a := by simpa [ltH] using h4
      rcases Int.lt_trichotomy (hk a) (hk b) with h6 | h6 | h6
      · exact h6
      · exfalso
        have e := hk_inj h6
        subst e
        obtain ⟨i, hi, hia⟩ := List.getElem_of_mem ha
        have hne : packH l ≠ [] := fun h => by rw [h] at hi; simp at hi
        rcases Nat.lt_or_ge (i + 1) (packH l).length with h7 | h7
        · have hz := (List.pairwise_iff_getElem.1 ih) i ((packH l).length - 1) hi (by omega) (by omega)
          have hlast : (packH l)[(packH l).length - 1] ∈ packH l := List.getElem_mem _
          have := h3 _ ((packH_mem l _).1 hlast) a (List.mem_singleton.2 rfl)
          simp only [ltH, decide_eq_false_iff_not] at this
          rw [hia] at hz
          omega
        · apply hn
          rw [List.getLast?_eq_getElem?, show (packH l).length - 1 = i by omega, List.getElem?_eq_getElem hi, hia]
      · exact absurd h6 h5
def sortH (l : List H32) : List H32 := (lineM (l.map fun h => ((0 : Int), h))).map (·.2)
theorem lineM_zero (l : List H32) : ∀ m ∈ lineM (l.map fun h => ((0 : Int), h)), m.1 = 0 := fun m hm => by
  rw [mem_lineM] at hm
  obtain ⟨h, _, rfl⟩ := List.mem_map.1 hm
  rfl
theorem mem_sortH (l : List H32) (h : H32) : h ∈ sortH l ↔ h ∈ l := by
  unfold sortH
  rw [List.mem_map]
  constructor
  · rintro ⟨m, hm, rfl⟩
    rw [mem_lineM] at hm
    obtain ⟨x, hx, rfl⟩ := List.mem_map.1 hm
    exact hx
  · intro hh
    exact ⟨(0, h), (mem_lineM _ _).2 (List.mem_map.2 ⟨h, hh, rfl⟩), rfl⟩
theorem ascH_sortH (l : List H32) : AscH (sortH l) := by
  have h1 := asc_lineM (l.map fun h => ((0 : Int), h))
  have h2 := lineM_zero l
  unfold AscH sortH
  rw [List.pairwise_map]
  refine (List.Pairwise.imp_of_mem ?_ h1)
  intro a b ha hb hab
  have := h2 a ha
  have := h2 b hb
  unfold key at hab
  unfold hk
  simp_all
theorem sortH_len (l : List H32) : (sortH l).length ≤ l.length := by
  have := lineM_len (l.map fun h => ((0 : Int), h))
  rw [List.length_map] at this
  unfold sortH
  rw [List.length_map]
  exact this
theorem packH_sort {l l' : List H32} (hp : l'.Perm l) (hs : l'.Pairwise fun a b => ltOf cmpH b a = false) : packH l' = sortH l := by
  rw [ltOf_cmpH] at hs
  exact ascH_ext (packH_asc l' hs) (ascH_sortH l) fun m => by rw [packH_mem, mem_sortH, hp.mem_iff]
end Go.Proofs.YtonncfminojejaaDoor

namespace Go.Proofs.YtonncfminojejaaDoor
open Go.RowKit
structure DGst where
  n : H32
  b : List UInt8
  lk : List H32
def hasG (gs : List DGst) (h : H32) : Bool := gs.any fun g => decide (g.n = h)
def cutG (h : H32) (g : DGst) : DGst := ⟨g.n, g.b, g.lk.filter (· ≠ h)⟩
def doneG (gs : List DGst) (h : H32) : List DGst := (gs.map (cutG h)).filter fun g => g.lk ≠ []
def outG (gs : List DGst) (h : H32) : List (List UInt8) := ((gs.map (cutG h)).filter fun g => g.lk = []).map (·.b)
def dropG (gs : List DGst) (h : H32) : List DGst := gs.filter fun g => g.n ≠ h
def missG (gs : List DGst) : List H32 := (sortH (gs.flatMap (·.lk))).filter fun h => !hasG gs h
abbrev DRow := H32 × H32
abbrev DGu := H32 × List UInt8
def hasR (L : List DGu) (h : H32) : Bool := L.any fun g => decide (g.1 = h)
def waitsR (rs : List DRow) (h : H32) : Bool := rs.any fun r => decide (r.1 = h)
def doneR (rs : List DRow) (h : H32) : List DRow := rs.filter fun r => r.2 ≠ h
structure RoomR (gs : List DGst) (rs : List DRow) (L : List DGu) : Prop where
  l : L = gs.map fun g => (g.n, g.b)
  ne : ∀ g ∈ gs, g.lk ≠ []
  asc : ∀ g ∈ gs, AscH g.lk
  mem : ∀ g ∈ gs, ∀ h, h ∈ g.lk ↔ (g.n, h) ∈ rs
  own : ∀ r ∈ rs, ∃ g ∈ gs, g.n = r.1
  nd : (gs.map (·.n)).Nodup
theorem hasR_eq (gs : List DGst) (h : H32) : hasR (gs.map fun g => (g.n, g.b)) h = hasG gs h := by
  unfold hasR hasG
  rw [List.any_map]
  rfl
theorem RoomR.has {gs : List DGst} {rs : List DRow} {L : List DGu} (r : RoomR gs rs L) (h : H32) : hasR L h = hasG gs h := by rw [r.l, hasR_eq]
theorem hasG_iff {gs : List DGst} {h : H32} : hasG gs h = true ↔ ∃ g ∈ gs, g.n = h := by simp [hasG]
theorem ascH_nodup {l : List H32} (h : AscH l) : l.Nodup := List.Pairwise.imp (fun {a b} hab e => by subst e; omega) h
theorem ascH_filter {l : List H32} (h : AscH l) (p : H32 → Bool) : AscH (l.filter p) := List.Pairwise.sublist List.filter_sublist h
theorem RoomR.nil : RoomR [] [] [] := ⟨rfl, (fun _ h => by cases h), (fun _ h => by cases h), (fun _ h => by cases h), (fun _ h => by cases h), List.nodup_nil⟩
theorem RoomR.add {gs : List DGst} {rs : List DRow} {L : List DGu} (r : RoomR gs rs L) {n : H32} {b : List UInt8} {l : List H32} (hn : hasG gs n = false) (hl : l ≠ []) :
    RoomR (gs ++ [⟨n, b, sortH l⟩]) (rs ++ l.map fun h => (n, h)) (L ++ [(n, b)]) := by
  have hn' : ∀ g ∈ gs, g.n ≠ n := fun g hg e => by
    have := hasG_iff.2 ⟨g, hg, e⟩
    rw [hn] at this; cases this
  have hno : ∀ h, (n, h) ∉ rs := fun h hh => by
    obtain ⟨g, hg, e⟩ := r.own _ hh
    exact hn' g hg e
  refine ⟨by rw [r.l, List.map_append]; rfl, fun g hg => ?_, fun g hg => ?_, fun g hg h => ?_, fun x hx => ?_, ?_⟩
  · rcases List.mem_append.1 hg with hg | hg
    · exact r.ne g hg
    · obtain rfl := List.mem_singleton.1 hg
      intro e
      obtain ⟨x, hx⟩ := List.exists_mem_of_ne_nil l hl
      have h2 : x ∈ sortH l := (mem_sortH l x).2 hx
      have e' : sortH l = [] := e
      rw [e'] at h2
      cases h2
  · rcases List.mem_append.1 hg with hg | hg
    · exact r.asc g hg
    · obtain rfl := List.mem_singleton.1 hg
      exact ascH_sortH l
  · rw [List.mem_append, List.mem_map]
    rcases List.mem_append.1 hg with hg | hg
    · rw [r.mem g hg h]
      constructor
      · exact .inl
      · rintro (h1 | ⟨x, _, e⟩)
        · exact h1
        · injection e with e _
          exact absurd e.symm (hn' g hg)
    · obtain rfl := List.mem_singleton.1 hg
      rw [mem_sortH]
      constructor
      · exact fun hh => .inr ⟨h, hh, rfl⟩
      · rintro (h1 | ⟨x, hx, e⟩)
        · exact absurd h1 (hno h)
        · injection e with _ e
          exact e ▸ hx
  · rcases List.mem_append.1 hx with hx | hx
    · obtain ⟨g, hg, e⟩ := r.own x hx
      exact ⟨g, List.mem_append_left _ hg, e⟩
    · obtain ⟨h, _, rfl⟩ := List.mem_map.1 hx
      exact ⟨_, List.mem_append_right _ (List.mem_singleton.2 rfl), rfl⟩
  · rw [List.map_append, List.nodup_append]
    refine ⟨r.nd, by simp, fun x hx y hy => ?_⟩
    obtain ⟨g, hg, rfl⟩ := List.mem_map.1 hx
    simp only [List.map_cons, List.map_nil, List.mem_singleton] at hy
    subst hy
    exact hn' g hg
theorem waits_eq {gs : List DGst} {rs : List DRow} {L : List DGu} (r : RoomR gs rs L) (h : H32) {g : DGst} (hg : g ∈ gs) : waitsR (doneR rs h) g.n = decide ((cutG h g).lk ≠ []) := by
  refine Bool.eq_iff_iff.2 (Iff.trans ?_ decide_eq_true_iff.symm)
  show _ ↔ g.lk.filter (· ≠ h) ≠ []
  simp only [waitsR, doneR, List.any_eq_true, List.mem_filter, decide_eq_true_eq]
  constructor
  · rintro ⟨⟨x, y⟩, ⟨hx, hy⟩, rfl⟩
    intro e
    have := (r.mem g hg y).2 hx
    have : y ∈ g.lk.filter (· ≠ h) := List.mem_filter.2 ⟨this, by simpa using hy⟩
    rw [e] at this
    cases this
  · intro e
    obtain ⟨y, hy⟩ := List.exists_mem_of_ne_nil _ e
    obtain ⟨h1, h2⟩ := List.mem_filter.1 hy
    exact ⟨(g.n, y), ⟨(r.mem g hg y).1 h1, by simpa using h2⟩, rfl⟩
theorem done_l {gs : List DGst} {rs : List DRow} {L : List DGu} (r : RoomR gs rs L) (h : H32) : L.filter (fun g => waitsR (doneR rs h) g.1) = (doneG gs h).map fun g => (g.n, g.b) := by
  rw [r.l, doneG, List.filter_map, List.filter_map, List.map_map]
  have : List.filter ((fun g : DGu => waitsR (doneR rs h) g.1) ∘ fun g => (g.n, g.b)) gs = List.filter ((fun g => decide (g.lk ≠ [])) ∘ cutG h) gs := List.filter_congr fun g hg => waits_eq r h hg
  rw [this]
  rfl
theorem done_out {gs : List DGst} {rs : List DRow} {L : List DGu} (r : RoomR gs rs L) (h : H32) : (L.filter fun g => !waitsR (doneR rs h) g.1).map (·.2) = outG gs h := by
  rw [r.l, outG, List.filter_map, List.filter_map, List.map_map, List.map_map]
  have : List.filter ((fun g : DGu => !waitsR (doneR rs h) g.1) ∘ fun g => (g.n, g.b)) gs = List.filter ((fun g => decide (g.lk = [])) ∘ cutG h) gs := List.filter_congr fun g hg => by
    simp only [Function.comp]
    rw [waits_eq r h hg]
    simp
  rw [this]
  rfl
theorem RoomR.done {gs : List DGst} {rs : List DRow} {L : List DGu} (r : RoomR gs rs L) (h : H32) : RoomR (doneG gs h) (doneR rs h) (L.filter fun g => waitsR (doneR rs h) g.1) := by
  have hmem : ∀ g ∈ doneG gs h, ∃ g0 ∈ gs, g = cutG h g0 := fun g hg => by
    obtain ⟨h1, _⟩ := List.mem_filter.1 hg
    obtain ⟨g0, h2, rfl⟩ := List.mem_map.1 h1
    exact ⟨g0, h2, rfl⟩
  refine ⟨done_l r h, fun g hg => ?_, fun g hg => ?_, fun g hg x => ?_, fun x hx => ?_, ?_⟩
  · simpa using (List.mem_filter.1 hg).2
  · obtain ⟨g0, h0, rfl⟩ := hmem g hg
    exact ascH_filter (r.asc g0 h0) _
  · obtain ⟨g0, h0, rfl⟩ := hmem g hg
    simp only [cutG, doneR, List.mem_filter, r.mem g0 h0 x]
  · obtain ⟨h1, h2⟩ := List.mem_filter.1 hx
    obtain ⟨g, hg, e⟩ := r.own x h1
    refine ⟨cutG h g, List.mem_filter.2 ⟨List.mem_map.2 ⟨g, hg, rfl⟩, ?_⟩, e⟩
    have hm : x.2 ∈ g.lk := (r.mem g hg x.2).2 (by rw [e]; exact h1)
    have hm2 : x.2 ∈ (cutG h g).lk := List.mem_filter.2 ⟨hm, by simpa using h2⟩
    simp only [decide_eq_true_eq]
    intro e2
    rw [e2] at hm2
    cases hm2
  · have : (doneG gs h).map (·.n) = ((gs.filter fun g => decide ((cutG h g).lk ≠ [])).map (·.n)) := by
      rw [doneG, List.filter_map, List.map_map]
      rfl
    rw [this]
    exact List.Nodup.sublist (List.Sublist.map _ List.filter_sublist) r.nd
theorem RoomR.drop {gs : List DGst} {rs : List DRow} {L : List DGu} (r : RoomR gs rs L) (h : H32) : RoomR (dropG gs h) (rs.filter fun x => x.1 ≠ h) (L.filter fun g => g.1 ≠ h) := by
  have hmem : ∀ g ∈ dropG gs h, g ∈ gs ∧ g.n ≠ h := fun g hg => by
    obtain ⟨h1, h2⟩ := List.mem_filter.1 hg
    exact ⟨h1, by simpa using h2⟩
  refine ⟨?_, fun g hg => r.ne g (hmem g hg).1, fun g hg => r.asc g (hmem g hg).1, fun g hg x => ?_, fun x hx => ?_, ?_⟩
  · rw [r.l, dropG, List.filter_map]; rfl
  · rw [r.mem g (hmem g hg).1, List.mem_filter]
    have := (hmem g hg).2
    simp [this]
  · obtain ⟨h1, h2⟩ := List.mem_filter.1 hx
    obtain ⟨g, hg, e⟩ := r.own x h1
    exact ⟨g, List.mem_filter.2 ⟨hg, by rw [e]; exact h2⟩, e⟩
  · exact List.Nodup.sublist (List.Sublist.map _ List.filter_sublist) r.nd
theorem erase_filter {l : List H32} (hl : AscH l) (h : H32) {k : Nat} (hk : k < l.length) (e : l[k] = h) : l.take k ++ l.drop (k + 1) = l.filter (· ≠ h) := by
  have hs : l = l.take k ++ l[k] :: l.drop (k + 1) := by rw [← List.drop_eq_getElem_cons hk, List.take_append_drop]
  have hn := ascH_nodup hl
  rw [hs, List.nodup_append] at hn
  obtain ⟨_, h2, h3⟩ := hn
  obtain ⟨h4, _⟩ := List.nodup_cons.1 h2
  conv => rhs; rw [hs, List.filter_append, List.filter_cons]
  have e1 : (l.take k).filter (· ≠ h) = l.take k := List.filter_eq_self.2 fun x hx => by
    have := h3 x hx l[k] (List.mem_cons_self ..)
    rw [e] at this
    simpa using this
  have e2 : (l.drop (k + 1)).filter (· ≠ h) = l.drop (k + 1) := List.filter_eq_self.2 fun x hx => by
    have : x ≠ h := fun e' => h4 (by rw [e, ← e']; exact hx)
    simpa using this
  rw [e1, e2, if_neg (by simp [e])]
theorem filter_self {l : List H32} {h : H32} (hn : h ∉ l) : l.filter (· ≠ h) = l := List.filter_eq_self.2 fun x hx => by
  have : x ≠ h := fun e => hn (e ▸ hx)
  simpa using this
theorem done_len (gs : List DGst) (h : H32) : (doneG gs h).length ≤ gs.length := by
  have := List.length_filter_le (fun g : DGst => decide (g.lk ≠ [])) (gs.map (cutG h))
  rwa [List.length_map] at this
theorem drop_len (gs : List DGst) (h : H32) : (dropG gs h).length ≤ gs.length := List.length_filter_le _ _
theorem miss_not {gs : List DGst} {h : H32} (hm : h ∈ missG gs) : hasG gs h = false := by simpa using (List.mem_filter.1 hm).2
def doAll (gs : List DGst) (l : List H32) : List DGst := l.foldl doneG gs
theorem doneG_mem {gs : List DGst} {h : H32} {g : DGst} : g ∈ doneG gs h ↔ ∃ g0 ∈ gs, g = cutG h g0 ∧ g.lk ≠ [] := by
  simp only [doneG, List.mem_filter, List.mem_map, decide_eq_true_eq]
  constructor
  · rintro ⟨⟨g0, h1, h2⟩, h3⟩; exact ⟨g0, h1, h2.symm, h3⟩
  · rintro ⟨g0, h1, h2, h3⟩; exact ⟨⟨g0, h1, h2.symm⟩, h3⟩
theorem doAll_mem : ∀ {l : List H32} {gs : List DGst} {g : DGst}, g ∈ doAll gs l → (∀ h ∈ g.lk, h ∉ l) ∧ ∃ g0 ∈ gs, g.n = g0.n ∧ ∀ h ∈ g.lk, h ∈ g0.lk
  | [], gs, g, hg => ⟨(fun _ _ h => by cases h), g, hg, rfl, fun _ h => h⟩
  | x :: l, gs, g, hg => by
    obtain ⟨h1, g0, h2, h3, h4⟩ := doAll_mem (l := l) (gs := doneG gs x) hg
    obtain ⟨g1, h5, rfl, _⟩ := doneG_mem.1 h2
    refine ⟨fun h hh => ?_, g1, h5, h3, fun h hh => (List.mem_filter.1 (h4 h hh)).1⟩
    rw [List.mem_cons]
    rintro (rfl | hx)
    · have := (List.mem_filter.1 (h4 _ hh)).2
      simp at this
    · exact h1 h hh hx
theorem doAll_len : ∀ (l : List H32) (gs : List DGst), (doAll gs l).length ≤ gs.length
  | [], gs => Nat.le_refl _
  | x :: l, gs => Nat.le_trans (doAll_len l (doneG gs x)) (done_len gs x)
theorem doAll_same : ∀ {l : List H32} {gs : List DGst}, (doAll gs l).length = gs.length → (doAll gs l).map (·.n) = gs.map (·.n)
  | [], gs, _ => rfl
  | x :: l, gs, h => by
    have h1 := doAll_len l (doneG gs x)
    have h2 := done_len gs x
    have h' : (doAll (doneG gs x) l).length = gs.length := h
    have h3 := doAll_same (l := l) (gs := doneG gs x) (by omega)
    show (doAll (doneG gs x) l).map (·.n) = _
    rw [h3]
    have h4 : (doneG gs x).length = (gs.map (cutG x)).length := by rw [List.length_map]; omega
    have h5 : doneG gs x = gs.map (cutG x) := List.filter_eq_self.2 fun a ha => (List.length_filter_eq_length_iff.1 h4) a ha
    rw [h5, List.map_map]
    rfl
theorem miss_nil {gs : List DGst} (h : (doAll gs (missG gs)).length = gs.length) : missG (doAll gs (missG gs)) = [] := by
  have hn := doAll_same h
  have hhas : ∀ x, hasG (doAll gs (missG gs)) x = hasG gs x := fun x => by
    have e : ∀ l : List DGst, hasG l x = (l.map (·.n)).any fun y => decide (y = x) := fun l => by rw [hasG, List.any_map]; rfl
    rw [e, e, hn]
  refine List.filter_eq_nil_iff.2 fun x hx => ?_
  rw [mem_sortH, List.mem_flatMap] at hx
  obtain ⟨g, hg, hgx⟩ := hx
  obtain ⟨h1, g0, h2, _, h4⟩ := doAll_mem hg
  have h5 := h1 x hgx
  have h6 : x ∈ gs.flatMap (·.lk) := List.mem_flatMap.2 ⟨g0, h2, h4 x hgx⟩
  rw [hhas]
  cases hh : hasG gs x with
  | true => simp
  | false =>
    exfalso
    refine h5 (List.mem_filter.2 ⟨(mem_sortH _ _).2 h6, by rw [hh]; rfl⟩)
end Go.Proofs.YtonncfminojejaaDoor

namespace Go.Proofs.YtonncfminojejaaDoor
open Go.RowKit
theorem calls_fin {P : Program} {g : FuncId} {args : List D} {S : St} {K : D → St → Prop} (h : DCalls P g args S fun d T => DFinT P S T d K) : DCalls P g args S K := fun base η w vs hM hr => by
  rcases h base η w vs hM hr with ⟨h1, h2⟩ | ⟨d, S', η', v, w', h1, ⟨S1, d1, t1, d', S'', q1, q2, q3, q4, q5, q6⟩, h3, h4⟩
  · refine .inl ⟨h1, h2.mono fun e w' ⟨d, S', η', v, ⟨S1, d1, t1, d', S'', q1, q2, q3, q4, q5, q6⟩, he, h3, h4⟩ => ?_⟩
    obtain ⟨η3, t2, t3⟩ := t1 _ _ _ _ h4.mem h3
    obtain ⟨g1, g2⟩ := goes_fin hM (h4.trans t2) q3 q4 q5
    exact ⟨d', S'', _, v, q6, he, g2 d' v q2 (q1 _ _ _ _ _ t3), g1⟩
  · obtain ⟨η3, t2, t3⟩ := t1 _ _ _ _ h4.mem h3
    obtain ⟨g1, g2⟩ := goes_fin hM (h4.trans t2) q3 q4 q5
    exact .inr ⟨d', S'', _, v, w', h1, q6, g2 d' v q2 (q1 _ _ _ _ _ t3), g1⟩
theorem fin_same {S T : St} (hS : S.WF) {d : D} (hc : d.closed) (hs : S.Sub T) : DFin S T d (fun d' T' => d' = d ∧ T' = S) :=
  ⟨d, S, DLe.refl _, D.all_mono (fun _ h => h.elim) hc, hs.next, Nat.le_refl _, fun k o hk => ⟨hs.ob k o hk, hS.lt hk, fun _ _ _ => .inl hk⟩, rfl, rfl⟩
def cur (l : List DMk) (q : Nat) : List DMk := packM (l.take q) ++ l.drop (packM (l.take q)).length
section
set_option maxRecDepth 200000
set_option maxHeartbeats 4000000
end
end Go.Proofs.YtonncfminojejaaDoor

namespace Go.Proofs.YtonncfminojejaaDoor
open Go.RowKit Go.Sort Go.Shelf
instance : Inhabited DMk := ⟨(0, ⟨List.replicate 32 0, rfl⟩)⟩
section
set_option maxRecDepth 200000
set_option maxHeartbeats 4000000
variable {S : St}
end
end Go.Proofs.YtonncfminojejaaDoor

namespace Go.Proofs.YtonncfminojejaaDoor
open Go.RowKit
section
variable {P : Program} {f : Fm} {S : St} {K : D → St → Prop}
theorem pfinT_ret3 (t u v : Tmp) (S' : St) (d : D) : DQ.pfin P [.tmp t, .tmp u, .tmp v] S d .ret f S' = PFin S S' (.tup [f t, f u, f v]) d := by
  simp [DQ.pfin, dresL, dres, onVal, one]
theorem pfinT_normal3 (t u v : Tmp) (S' : St) (d : D) : DQ.pfin P [.tmp t, .tmp u, .tmp v] S d .normal f S' = PFin S S' (.tup [f t, f u, f v]) d := by
  simp [DQ.pfin, dresL, dres, onVal, one]
theorem inl_ret3 (t u v : Tmp) (S' : St) : DQ.inl P [.tmp t, .tmp u, .tmp v] K .ret f S' = K (.tup [f t, f u, f v]) S' := by simp [DQ.inl, dresL, dres, onVal, one]
theorem inl_normal3 (t u v : Tmp) (S' : St) : DQ.inl P [.tmp t, .tmp u, .tmp v] K .normal f S' = K (.tup [f t, f u, f v]) S' := by simp [DQ.inl, dresL, dres, onVal, one]
attribute [go_sem] pfinT_ret3 pfinT_normal3 inl_ret3 inl_normal3
end
theorem growM_hit {S : St} {own : Own} {e : TypeId} {n : Nat} : (S.grow own e n).ob S.next = some (.row e n) := by
  cases own <;> simp [St.grow, St.leave, St.add, St.drop]
theorem growM_skip {S : St} {own : Own} {e : TypeId} {n j : Nat} (h1 : j ≠ S.next) (h2 : ∀ g, own = .row g → j ≠ g) : (S.grow own e n).ob j = S.ob j := by
  cases own with
  | row g => simp [St.grow, St.leave, St.add, St.drop, h1, h2 g rfl]
  | no => simp [St.grow, St.leave, St.add, h1]
  | full => simp [St.grow, St.leave, St.add, h1]
theorem app_more {P : Program} {S : St} {t ty e : TypeId} {own own2 : Own} {es es2 : List D} {K : D → St → Prop} (he : elT P t = some e) (hz : zeroT P e = true) (h : own = .full ∨ ∃ g, own = .row g ∧ S.ob g = some (.row e es.length)) (hw : ∀ d ∈ es, d.width = szOf P e) (hx : ∀ d ∈ es2, d.width = szOf P e)
    (hb : es.length + es2.length ≤ 140737488355328) (hb2 : (es.length + es2.length) * bytesOf P e ≤ 140737488355328) (k : K (.sl (.row S.next) (es ++ es2)) (S.grow own e (es.length + es2.length))) : dapp P S t t ty (.sl own es) (.sl own2 es2) K := by
  refine dapp_row ?_
  simp only [dappend, he, hz, true_and, Option.isSome_some]
  refine ⟨hw, hx, ?_, hb, hb2, k⟩
  rcases h with rfl | ⟨g, rfl, h⟩
  · trivial
  · exact h
section
set_option maxRecDepth 200000
set_option maxHeartbeats 4000000
end
end Go.Proofs.YtonncfminojejaaDoor

namespace Go.Proofs.YtonncfminojejaaDoor
open Go.RowKit
def own0 (i : Nat) : Own := bif Nat.beq i 0 then .full else .no
theorem closed_encH (h : H32) : (encH h).closed := by
  simp only [encH, D.closed, D.all]
  refine allL_iff.2 fun d hd => ?_
  obtain ⟨b, _, rfl⟩ := List.mem_map.1 hd
  simp [bD, D.all]
theorem closed_Hs (l : List H32) : (D.sl .no (l.map encH)).closed := by
  simp only [D.closed, D.all, Own.all, true_and]
  refine allL_iff.2 fun d hd => ?_
  obtain ⟨m, _, rfl⟩ := List.mem_map.1 hd
  exact closed_encH m
theorem wHs (l : List H32) : ∀ d ∈ l.map encH, d.width = 32 := fun d hd => by obtain ⟨m, _, rfl⟩ := List.mem_map.1 hd; exact width_encH m
section
set_option maxRecDepth 200000
set_option maxHeartbeats 4000000
theorem hashes_d (own own2 : Own) (a b : List H32) (ha : a.length ≤ 1000000) : DPure Tryd.prog 14 [.sl own (a.map encH), .sl own2 (b.map encH)] (.v (.bool (decide (a = b)))) := by
  refine dpure_of_dwp mixed Tryd.func14 rfl (fun _ _ => by kernel_rfl) (rs := [.tmp 4]) rfl (by kernel_rfl) trivial (fun S hS => ?_)
  by_cases hl : a.length = b.length
  · have b0 : ((a.length : Int) != (b.length : Int)) = false := by simp [hl]
    (simp (disch := first | decide | omega | (simp only [nx]; first | done | omega)) only [go_sem, b0]; (repeat with_reducible refine aI ?_))
    (refine dloop_st (fun t => List.contains [4, 5, 11, 12, 13, 14, 15, 16, 17, 18, 19, 20, 21, 22, 23, 24, 25] t) (by kernel_rfl) ?_ (a.length) (fun i f => i ≤ a.length ∧ f 5 = .v (.int .i64 (i : Nat)) ∧ (∀ j, j < i → a[j]? = b[j]?)) ?_ ?_; (exact (by (repeat' first | assumption | refine St.WF.leave ?_ _ | refine St.WF.add ?_ _ | refine St.WF.set ?_ ?_ _ | refine St.WF.grow ?_ _ _ _ | refine St.WF.keep ?_ ?_ | (first | omega | (simp only [RowOk.lo, nx]; first | done | omega))))); (exact ⟨(by omega), (by (first | (simp (disch := first | decide | omega | (simp only [nx]; first | done | omega)) only [go_sem]; first | done | rfl) | rfl)), (fun j h => by omega)⟩); intro i g tn hn hT hg hI; obtain ⟨le, q5, hs⟩ := hI; have q0 := hg 0 rfl; have q1 := hg 1 rfl; simp (disch := first | decide | omega | (simp only [nx]; first | done | omega)) only [go_sem] at q0 q1; clear hg; have hn' := hn; try simp only [add_next, set_next, grow_next, leave_next, drop_next] at hn')
    by_cases hlt : i < a.length
    · have b1 : decide ((i : Int) < (a.length : Int)) = true := by simp; omega
      have w1 : IntKind.i64.wrap ((i : Int) + 1) = ((i + 1 : Nat) : Int) := IntWalk.i64_in _ ⟨by omega, by omega⟩
      have hlt' : i < b.length := by omega
      have la := a[i].2
      have lb := b[i].2
      (simp (disch := first | decide | omega | (simp only [nx]; first | done | omega)) only [go_sem, q0, q1, q5, b1]; (repeat with_reducible refine aI ?_))
      refine ddraw_mk 9 (by kernel_rfl) ?_
      (simp (disch := first | decide | omega | (simp only [nx]; first | done | omega)) only [go_sem, q0, q1, q5, hlt, hlt', la, lb]; (repeat with_reducible refine aI ?_))
      by_cases he : a[i] = b[i]
      · have b2 : (!decide (a[i] = b[i])) = false := by simp [he]
        (simp (disch := first | decide | omega | (simp only [nx]; first | done | omega)) only [go_sem, b2, q5, w1]; (repeat with_reducible refine aI ?_))
        (refine ⟨by omega, (by (repeat' first | assumption | exact St.Sub.refl _ | exact RowOk.sub (by assumption) (by assumption) | refine St.Sub.trans ?_ (RowOk.sub (by assumption) (by assumption)) | refine St.Sub.add ?_ ?_ _ | refine St.Sub.set ?_ ?_ ?_ _ | refine St.Sub.keep ?_ ?_ | refine St.WF.leave ?_ _ | refine St.WF.add ?_ _ | refine St.WF.set ?_ ?_ _ | refine St.WF.grow ?_ _ _ _ | refine St.WF.keep ?_ ?_ | (first | omega | (simp only [RowOk.lo, nx]; first | done | omega)))), ?_⟩; refine ⟨by omega, ?_, ?_⟩; all_goals (try (first | (simp (disch := first | decide | omega | (simp only [nx]; first | done | omega)) only [go_sem, w1]; first | done | rfl) | rfl)))
        intro j hj
        by_cases e : j = i
        · subst e; rw [List.getElem?_eq_getElem hlt, List.getElem?_eq_getElem hlt', he]
        · exact hs j (by omega)
      · have b2 : (!decide (a[i] = b[i])) = true := by simp [he]
        (simp (disch := first | decide | omega | (simp only [nx]; first | done | omega)) only [go_sem, b2]; (repeat with_reducible refine aI ?_))
        refine ⟨?_, (by (repeat' first | assumption | exact St.Sub.refl _ | exact RowOk.sub (by assumption) (by assumption) | refine St.Sub.trans ?_ (RowOk.sub (by assumption) (by assumption)) | refine St.Sub.add ?_ ?_ _ | refine St.Sub.set ?_ ?_ ?_ _ | refine St.Sub.keep ?_ ?_ | refine St.WF.leave ?_ _ | refine St.WF.add ?_ _ | refine St.WF.set ?_ ?_ _ | refine St.WF.grow ?_ _ _ _ | refine St.WF.keep ?_ ?_ | (first | omega | (simp only [RowOk.lo, nx]; first | done | omega))))⟩
        have : a ≠ b := fun h => he (by subst h; rfl)
        simp [D.frz, this]
    · have b1 : decide ((i : Int) < (a.length : Int)) = false := by simp; omega
      (simp (disch := first | decide | omega | (simp only [nx]; first | done | omega)) only [go_sem, q0, q5, b1]; (repeat with_reducible refine aI ?_))
      refine ⟨?_, (by (repeat' first | assumption | exact St.Sub.refl _ | exact RowOk.sub (by assumption) (by assumption) | refine St.Sub.trans ?_ (RowOk.sub (by assumption) (by assumption)) | refine St.Sub.add ?_ ?_ _ | refine St.Sub.set ?_ ?_ ?_ _ | refine St.Sub.keep ?_ ?_ | refine St.WF.leave ?_ _ | refine St.WF.add ?_ _ | refine St.WF.set ?_ ?_ _ | refine St.WF.grow ?_ _ _ _ | refine St.WF.keep ?_ ?_ | (first | omega | (simp only [RowOk.lo, nx]; first | done | omega))))⟩
      have : a = b := List.ext_getElem? fun j => by
        by_cases hj : j < i
        · exact hs j hj
        · rw [List.getElem?_eq_none (by omega), List.getElem?_eq_none (by omega)]
      simp [D.frz, this]
  · have b0 : ((a.length : Int) != (b.length : Int)) = true := by simp; omega
    (simp (disch := first | decide | omega | (simp only [nx]; first | done | omega)) only [go_sem, b0]; (repeat with_reducible refine aI ?_))
    refine ⟨?_, (by (repeat' first | assumption | exact St.Sub.refl _ | exact RowOk.sub (by assumption) (by assumption) | refine St.Sub.trans ?_ (RowOk.sub (by assumption) (by assumption)) | refine St.Sub.add ?_ ?_ _ | refine St.Sub.set ?_ ?_ ?_ _ | refine St.Sub.keep ?_ ?_ | refine St.WF.leave ?_ _ | refine St.WF.add ?_ _ | refine St.WF.set ?_ ?_ _ | refine St.WF.grow ?_ _ _ _ | refine St.WF.keep ?_ ?_ | (first | omega | (simp only [RowOk.lo, nx]; first | done | omega))))⟩
    have : a ≠ b := fun h => hl (by rw [h])
    simp [D.frz, this]
end
end Go.Proofs.YtonncfminojejaaDoor

namespace Go.Proofs.YtonncfminojejaaDoor
open Go.RowKit
theorem elHs : elT Tryd.prog 39 = some 37 := by kernel_rfl
theorem szHs : szOf Tryd.prog 37 = 32 := by kernel_rfl
theorem byHs : bytesOf Tryd.prog 37 = 32 := by kernel_rfl
theorem zeHs : zeroT Tryd.prog 37 = true := by kernel_rfl
theorem zoHs : zeroOk Tryd.prog 37 = true := by kernel_rfl
theorem flatHs_len (l : List H32) : (flat (l.map encH)).length = l.length * 32 := by rw [dflat_length (wHs l), List.length_map]
theorem hs_at {l : List H32} {zs : List D} {i : Nat} (hi : i < l.length) : ((flat (l.map encH) ++ zs).drop (i * 32)).take 32 = (l[i].1.map bD) := by
  have hf := flatHs_len (l.take i)
  rw [List.length_take, Nat.min_eq_left (by omega)] at hf
  have e : l = l.take i ++ l[i] :: l.drop (i + 1) := by rw [← List.drop_eq_getElem_cons hi, List.take_append_drop]
  have e2 : flat (l.map encH) = flat ((l.take i).map encH) ++ ((l[i].1.map bD) ++ flat ((l.drop (i + 1)).map encH)) := by
    conv => lhs; rw [e]
    rw [List.map_append, List.map_cons, flat_append, flat_cons, cells_encH]
  rw [e2, List.append_assoc, List.drop_append_of_le_length (by omega), List.drop_of_length_le (by omega), List.nil_append, List.append_assoc, List.take_append_of_le_length (by rw [len_encH]; omega), take_hash]
structure OwnH (T : St) (k c : Nat) (zs : List D) (l : List H32) : Prop where
  ob : T.ob k = some (ownOb 37 (l.map encH) zs c)
  ln : (flat (l.map encH) ++ zs).length = c * 32
  lt : k < T.next
theorem OwnH.le {T : St} {k c : Nat} {zs : List D} {l : List H32} (h : OwnH T k c zs l) : l.length ≤ c := by
  have := ownOb_len (wHs l) (by omega) h.ln
  rwa [List.length_map] at this
theorem OwnH.pos {T : St} {k c : Nat} {zs : List D} {l : List H32} (h : OwnH T k c zs l) (hl : 0 < l.length) : T.ob k = some (.box 37 (flat (l.map encH) ++ zs)) := by
  have h1 := h.le
  have h2 := h.ob
  rwa [ownOb_box (by omega)] at h2
theorem thawH {T : St} {k c : Nat} {zs : List D} {l : List H32} (h : OwnH T k c zs l) {d d1 : D} (hd : d.thaw k (l.map encH) = d1) : Thaw Tryd.prog T d (T.drop k) d1 := thaw_own h.ob (by rw [List.length_map]; exact h.le) (by rw [szHs]; omega) (by rw [szHs]; exact wHs l) hd
theorem dpure_ownH {g : FuncId} {args : List D} {l : List H32} (h : ∀ S : St, S.WF → DCalls Tryd.prog g args S fun d T => ∃ k c zs, d = .win k 0 l.length c ∧ S.next ≤ k ∧ OwnH T k c zs l ∧ S.Sub T) : DPure Tryd.prog g args (.sl .no (l.map encH)) := fun S base η w vs hM hr =>
  calls_fin ((h S hM.fresh).mono fun d T ⟨k, c, zs, e, hk, ho, hs⟩ => ⟨T.drop k, .sl .no (l.map encH), by
    subst e
    refine thawH ho ?_
    simp only [D.thaw, List.length_map, Nat.beq_refl, Bool.and_self, cond_true], fin_same hM.fresh (closed_Hs l) ⟨hs.next, fun j o hj => by
    have := St.WF.lt (S := S) hM.fresh hj
    simp only [St.drop]
    rw [if_neg (by omega)]
    exact hs.ob j o hj⟩⟩) base η w vs hM hr
def curH (l : List H32) (q : Nat) : List H32 := packH (l.take q) ++ l.drop (packH (l.take q)).length
theorem packH_takeLen (l : List H32) (q : Nat) : (packH (l.take q)).length ≤ q ∧ (packH (l.take q)).length ≤ l.length := by
  have h := packH_len (l.take q)
  rw [List.length_take] at h
  omega
theorem curH_len (l : List H32) (q : Nat) : (curH l q).length = l.length := by
  have := packH_takeLen l q
  rw [curH, List.length_append, List.length_drop]
  omega
theorem curH_at (l : List H32) (q i : Nat) (h : (packH (l.take q)).length ≤ i) (hi : i < l.length) : (curH l q)[i]'(by rw [curH_len]; exact hi) = l[i] := by
  unfold curH
  rw [List.getElem_append_right h, List.getElem_drop]
  congr 1
  omega
theorem curH_none {l : List H32} {q : Nat} (h : packH (l.take q) = l.take q) : curH l q = l := by
  unfold curH
  rw [h, List.length_take]
  rcases Nat.lt_or_ge q l.length with h1 | h1
  · rw [Nat.min_eq_left (by omega), List.take_append_drop]
  · rw [List.take_of_length_le h1, List.drop_of_length_le (by omega), List.append_nil]
theorem curH_same {l : List H32} {i : Nat} (h : i + 1 < l.length) (he : l[i] = l[i + 1]) : curH l (i + 2) = curH l (i + 1) := by
  unfold curH
  rw [packH_take l i h, if_pos he]
theorem curH_new {l : List H32} {i : Nat} (h : i + 1 < l.length) (he : l[i] ≠ l[i + 1]) (hp : (packH (l.take (i + 1))).length < l.length) : curH l (i + 2) = (curH l (i + 1)).set (packH (l.take (i + 1))).length l[i + 1] := by
  unfold curH
  rw [packH_take l i h, if_neg he, List.set_append_right _ _ (Nat.le_refl _), Nat.sub_self, List.drop_eq_getElem_cons hp, List.set_cons_zero, List.length_append, List.append_assoc]
  rfl
section
set_option maxRecDepth 200000
set_option maxHeartbeats 4000000
theorem compactH_w {S : St} {k c : Nat} {zs : List D} (l : List H32) (ho : OwnH S k c zs l) (hlen : l.length ≤ 1000000) :
    DCalls Tryd.prog 45 [.win k 0 l.length c] S (fun d T => ∃ zs', d = .win k 0 (packH l).length c ∧ OwnH T k c zs' (packH l) ∧ S.next ≤ T.next ∧ ∀ j o, j ≠ k → S.ob j = some o → T.ob j = some o) := by
  have hle := ho.le
  have hlt := ho.lt
  refine dcalls_inline mixed Tryd.func45 rfl (fun _ _ => by kernel_rfl) (rs := [.tmp 2]) rfl (by kernel_rfl) (fun hS => ?_)
  by_cases h2 : l.length < 2
  · have b1 : decide ((l.length : Int) < 2) = true := by simp; omega
    have hp : packH l = l := by
      match l, h2 with
      | [], _ => rfl
      | [x], _ => rfl
    (simp (disch := first | decide | omega | (simp only [nx]; first | done | omega)) only [go_sem, b1]; (repeat with_reducible refine aI ?_))
    rw [hp]
    exact ⟨zs, rfl, ho, Nat.le_refl _, fun _ _ _ h => h⟩
  have b1 : decide ((l.length : Int) < 2) = false := by simp; omega
  have hk := ho.pos (by omega)
  (simp (disch := first | decide | omega | (simp only [nx]; first | done | omega)) only [go_sem, b1]; (repeat with_reducible refine aI ?_))
  (refine dloop_st (fun t => List.contains [2, 3, 4, 5, 10, 11, 12, 13, 14, 15, 16, 17, 18, 19, 20, 21, 22, 23, 24, 25, 26, 27, 28, 29, 30, 31, 32, 33, 34, 35, 36, 37, 38, 39, 40, 41, 42, 43, 44, 45, 46, 47, 48, 49, 50, 51, 52, 53, 54, 55, 56, 57, 58, 59] t) (by kernel_rfl) ?_ (l.length) (fun i f => i ≤ l.length ∧ f 3 = .v (.int .i64 ((i + 1 : Nat))) ∧ f 2 = .sl .full [] ∧ (packH (l.take (i + 1)) = l.take (i + 1))) ?_ ?_; (exact (by (repeat' first | assumption | refine St.WF.leave ?_ _ | refine St.WF.add ?_ _ | refine St.WF.set ?_ ?_ _ | refine St.WF.grow ?_ _ _ _ | refine St.WF.keep ?_ ?_ | (first | omega | (simp only [RowOk.lo, nx]; first | done | omega))))); (exact ⟨(by omega), (by (first | (simp (disch := first | decide | omega | (simp only [nx]; first | done | omega)) only [go_sem]; first | done | rfl) | rfl)), (by (first | (simp (disch := first | decide | omega | (simp only [nx]; first | done | omega)) only [go_sem]; first | done | rfl) | rfl)), (by rw [List.take_succ_eq_append_getElem (by omega)]; rfl)⟩); intro i g tn hn hT hg hI; obtain ⟨le, q3, q2, hp⟩ := hI; have q0 := hg 0 rfl; simp (disch := first | decide | omega | (simp only [nx]; first | done | omega)) only [go_sem] at q0; clear hg; have hn' := hn; try simp only [add_next, set_next, grow_next, leave_next, drop_next] at hn')
  by_cases hlt1 : i + 1 < l.length
  · have b2 : decide (((i + 1 : Nat) : Int) < (l.length : Int)) = true := by simp; omega
    have w0 : IntKind.i64.wrap (((i + 1 : Nat) : Int) - 1) = ((i : Nat) : Int) := by rw [IntKind.wrap_i64]; omega
    have w1 : IntKind.i64.wrap (((i + 1 : Nat) : Int) + 1) = ((i + 1 + 1 : Nat) : Int) := IntWalk.i64_in _ ⟨by omega, by omega⟩
    have hcs := ho.ln
    have m1 := hs_at (zs := zs) hlt1
    have m2 := hs_at (zs := zs) (by omega : i < l.length)
    by_cases he : l[i + 1] = l[i]
    · have b3 : decide (l[i + 1] = l[i]) = true := decide_eq_true he
      have hq : packH (l.take (i + 2)) = l.take (i + 1) := by rw [packH_take l i hlt1, if_pos he.symm, hp]
      (simp (disch := first | decide | omega | (simp only [nx]; first | done | omega)) only [go_sem, q0, q3, q2, b2]; (repeat with_reducible refine aI ?_))
      refine ddraw_mk 10 (by kernel_rfl) ?_
      (simp (disch := first | decide | omega | (simp only [nx]; first | done | omega)) only [go_sem, q0, q3, q2, b2, w0, hk, Nat.zero_add, hcs, m1, m2, b3]; (repeat with_reducible refine aI ?_))
      rw [winOff_lt (by omega)]
      have hq0 : (packH (l.take (i + 2 + 0))).length = i + 1 := by rw [Nat.add_zero, hq, List.length_take]; omega
      have hk : S.ob k = some (.box 37 (flat ((curH l (i + 2 + 0)).map encH) ++ zs)) := by rw [Nat.add_zero, curH_same hlt1 he.symm, curH_none hp]; exact hk
      (refine dloop_var (fun t => List.contains [3, 5, 29, 30, 31, 32, 33, 34, 35, 36, 37, 38, 39, 40, 41, 42, 43, 44, 45, 46, 47, 48, 49, 50, 51, 52, 53] t) (by kernel_rfl) ?_ (l.length - (i + 2)) (k) (fun ij => .box 37 (flat ((curH l (i + 2 + ij)).map encH) ++ zs)) ?_ (fun ij f => ij ≤ l.length - (i + 2) ∧ f 3 = .v (.int .i64 (((packH (l.take (i + 2 + ij))).length : Nat))) ∧ f 5 = .v (.int .i64 ((ij + 1 : Nat))) ∧ ((packH (l.take (i + 2 + ij))).length ≤ i + 1 + ij)) ?_ ?_; (exact (by (repeat' first | assumption | refine St.WF.leave ?_ _ | refine St.WF.add ?_ _ | refine St.WF.set ?_ ?_ _ | refine St.WF.grow ?_ _ _ _ | refine St.WF.keep ?_ ?_ | (first | omega | (simp only [RowOk.lo, nx]; first | done | omega))))); (exact (by (first | (first | (simp (disch := first | decide | omega | (simp only [nx]; first | done | omega)) only [go_sem]; first | done | rfl) | rfl) | (first | (simp (disch := first | decide | omega | (simp only [nx]; first | done | omega)) only [go_sem, q3, hq0, hk]; first | done | rfl) | rfl)))); (exact ⟨(by omega), (by (first | (simp (disch := first | decide | omega | (simp only [nx]; first | done | omega)) only [go_sem, q3, hq0, hk]; first | done | rfl) | rfl)), (by (first | (simp (disch := first | decide | omega | (simp only [nx]; first | done | omega)) only [go_sem, q3, hq0, hk]; first | done | rfl) | rfl)), (by omega)⟩); intro ij gj tnj hnj hTj hgj hIj; obtain ⟨lej, q3j, q5j, hpj⟩ := hIj; have q0j := hgj 0 rfl; have q2j := hgj 2 rfl; have q4j := hgj 4 rfl; simp (disch := first | decide | omega | (simp only [nx]; first | done | omega)) only [go_sem, q3, hq0, hk] at q0j q2j q4j; clear hgj; have hnj' := hnj; try simp only [add_next, set_next, grow_next, leave_next, drop_next] at hnj')
      by_cases hlt2 : i + 2 + ij < l.length
      · have b4 : decide (((ij + 1 : Nat) : Int) < ((l.length - (i + 1) : Nat) : Int)) = true := by simp; omega
        have w2 : IntKind.i64.wrap (((ij + 1 : Nat) : Int) - 1) = ((ij : Nat) : Int) := by rw [IntKind.wrap_i64]; omega
        have w3 : IntKind.i64.wrap (((ij + 1 : Nat) : Int) + 1) = ((ij + 1 + 1 : Nat) : Int) := IntWalk.i64_in _ ⟨by omega, by omega⟩
        have hcl := curH_len l (i + 2 + ij)
        have hcs2 : (flat ((curH l (i + 2 + ij)).map encH) ++ zs).length = c * 32 := by
          have := ho.ln
          simp only [List.length_append, flatHs_len, hcl] at this ⊢
          exact this
        have m3 := hs_at (l := curH l (i + 2 + ij)) (zs := zs) (by omega : i + 2 + ij < _)
        have m4 := hs_at (l := curH l (i + 2 + ij)) (zs := zs) (by omega : i + 1 + ij < _)
        rw [curH_at l _ _ (by omega) (by omega)] at m3 m4
        have x3 : (i + 1) * 32 + (ij + 1) * 32 = (i + 2 + ij) * 32 := by omega
        have x4 : (i + 1) * 32 + ij * 32 = (i + 1 + ij) * 32 := by omega
        (simp (disch := first | decide | omega | (simp only [nx]; first | done | omega)) only [go_sem, q0j, q3j, q4j, q5j, b4]; (repeat with_reducible refine aI ?_))
        refine ddraw_mk 10 (by kernel_rfl) ?_
        (simp (disch := first | decide | omega | (simp only [nx]; first | done | omega)) only [go_sem, q0j, q3j, q4j, q5j, b4, w2, Nat.zero_add, hcs2, x3, x4, m3, m4]; (repeat with_reducible refine aI ?_))
        have y2 : i + 2 + (ij + 1) = i + 1 + ij + 2 := by omega
        have y1 : i + 2 + ij = i + 1 + ij + 1 := by omega
        have hlt3 : i + 1 + ij + 1 < l.length := by omega
        have hpP : (packH (l.take (i + 2 + ij))).length < l.length := by omega
        by_cases he2 : l[i + 2 + ij] = l[i + 1 + ij]
        · have b5 : (!decide (l[i + 2 + ij] = l[i + 1 + ij])) = false := by simp [he2]
          (simp (disch := first | decide | omega | (simp only [nx]; first | done | omega)) only [go_sem, b5, q5j, w3]; (repeat with_reducible refine aI ?_))
          have he3 : l[i + 1 + ij] = l[i + 1 + ij + 1] := by rw [← he2]; congr 1
          have e1 : packH (l.take (i + 2 + (ij + 1))) = packH (l.take (i + 2 + ij)) := by rw [y2, y1, packH_take l _ hlt3, if_pos he3]
          have e2 : curH l (i + 2 + (ij + 1)) = curH l (i + 2 + ij) := by unfold curH; rw [e1]
          refine ⟨by omega, ?_, by omega, ?_, ?_, by rw [e1]; omega⟩
          · show (St.set _ k (Ob.box _ (flat ((curH l (i + 2 + (ij + 1))).map encH) ++ zs))).Sub _
            rw [e2]
            exact ⟨hnj, fun _ _ h => h⟩
          · rw [e1]; (first | (simp (disch := first | decide | omega | (simp only [nx]; first | done | omega)) only [go_sem, q3j]; first | done | rfl) | rfl)
          · (first | (simp (disch := first | decide | omega | (simp only [nx]; first | done | omega)) only [go_sem, w3]; first | done | rfl) | rfl)
        · have b5 : (!decide (l[i + 2 + ij] = l[i + 1 + ij])) = true := by simp [he2]
          have w4 : IntKind.i64.wrap (((packH (l.take (i + 2 + ij))).length : Int) + 1) = (((packH (l.take (i + 2 + ij))).length + 1 : Nat) : Int) := IntWalk.i64_in _ ⟨by omega, by omega⟩
          have lw := l[i + 2 + ij].2
          (simp (disch := first | decide | omega | (simp only [nx]; first | done | omega)) only [go_sem, b5, q0, q0j, q3j, q4j, q5j, Nat.zero_add, hcs2, x3, m3, w3, w4, hcl, lw]; (repeat with_reducible refine aI ?_))
          have he3 : ¬ l[i + 1 + ij] = l[i + 1 + ij + 1] := fun h => he2 (by rw [h]; congr 1)
          have e1 : (packH (l.take (i + 2 + (ij + 1)))).length = (packH (l.take (i + 2 + ij))).length + 1 := by rw [y2, y1, packH_take l _ hlt3, if_neg he3, List.length_append]; rfl
          have e2 : curH l (i + 2 + (ij + 1)) = (curH l (i + 2 + ij)).set (packH (l.take (i + 2 + ij))).length l[i + 2 + ij] := by
            have := curH_new hlt3 he3 (by rw [← y1]; exact hpP)
            have e6 : l[i + 1 + ij + 1] = l[i + 2 + ij] := by congr 1; omega
            rw [e6, ← y1, ← y2] at this
            exact this
          refine ⟨by omega, ?_, by omega, ?_, ?_, by omega⟩
          · show (St.set _ k (Ob.box _ (flat ((curH l (i + 2 + (ij + 1))).map encH) ++ zs))).Sub _
            have key := splice_flat' (es := (curH l (i + 2 + ij)).map encH) (zs := zs) (z := 32) (i := (packH (l.take (i + 2 + ij))).length) (y := encH l[i + 2 + ij]) (by rw [List.length_map]; omega) (wHs _) (width_encH _)
            rw [cells_encH] at key
            rw [key, e2, List.map_set]
            exact St.Sub.upd hnj rfl (St.Sub.refl _)
          · rw [e1]; (first | (simp (disch := first | decide | omega | (simp only [nx]; first | done | omega)) only [go_sem, q3j]; first | done | rfl) | rfl)
          · (first | (simp (disch := first | decide | omega | (simp only [nx]; first | done | omega)) only [go_sem, w3]; first | done | rfl) | rfl)
      · have b4 : decide (((ij + 1 : Nat) : Int) < ((l.length - (i + 1) : Nat) : Int)) = false := by simp; omega
        (simp (disch := first | decide | omega | (simp only [nx]; first | done | omega)) only [go_sem, q0, q0j, q3j, q4j, q5j, b4]; (repeat with_reducible refine aI ?_))
        have hie : i + 2 + ij = l.length := by omega
        have hpe : packH (l.take (i + 2 + ij)) = packH l := by rw [hie, List.take_length]
        have hcl := curH_len l (i + 2 + ij)
        have hcs2 : (flat ((curH l (i + 2 + ij)).map encH) ++ zs).length = c * 32 := by
          have := ho.ln
          simp only [List.length_append, flatHs_len, hcl] at this ⊢
          exact this
        have hpl := packH_len l
        have hmul : (l.length - (packH l).length) * 32 + (packH l).length * 32 = l.length * 32 := by rw [← Nat.add_mul]; congr 1; omega
        have hcc := hcs2
        rw [List.length_append, flatHs_len, hcl] at hcc
        rw [hpe] at hpj ⊢
        rw [winOff_lt (by omega), Nat.zero_add]
        refine dclear_win elHs zeHs zoHs (bt := 37) (cs := flat ((curH l (i + 2 + ij)).map encH) ++ zs) (by (first | (simp (disch := first | decide | omega | (simp only [nx]; first | done | omega)) only [go_sem]; first | done | rfl) | rfl)) (by rw [szHs, hcs2]; omega) fun z2 hz2 => ?_
        rw [szHs] at hz2
        have e5 : flat ((curH l (i + 2 + ij)).map encH) = flat ((packH l).map encH) ++ flat ((l.drop (packH l).length).map encH) := by rw [curH, hpe, List.map_append, flat_append]
        rw [e5, List.append_assoc, splice_at (by rw [flatHs_len])]
        (simp (disch := first | decide | omega | (simp only [nx]; first | done | omega)) only [go_sem, q0, q0j, q3j, hpe, winOff_zero]; (repeat with_reducible refine aI ?_))
        refine ⟨z2 ++ List.drop z2.length (flat (List.map encH (List.drop (packH l).length l)) ++ zs), ⟨?_, ?_, ?_⟩, by omega, ?_⟩
        · rw [ownOb_box (by omega)]
          simp only [St.set, if_true, List.append_assoc]
        · have h3 := flatHs_len (l.drop (packH l).length)
          rw [List.length_drop] at h3
          simp only [List.length_append, List.length_drop, flatHs_len] at hcc ⊢
          omega
        · show k < tnj
          omega
        · intro j o hj h
          simp only [St.set, if_neg hj]
          exact h
    · have b3 : decide (l[i + 1] = l[i]) = false := decide_eq_false he
      (simp (disch := first | decide | omega | (simp only [nx]; first | done | omega)) only [go_sem, q0, q3, q2, b2]; (repeat with_reducible refine aI ?_))
      refine ddraw_mk 10 (by kernel_rfl) ?_
      (simp (disch := first | decide | omega | (simp only [nx]; first | done | omega)) only [go_sem, q0, q3, q2, b2, w0, hk, Nat.zero_add, hcs, m1, m2, b3, w1]; (repeat with_reducible refine aI ?_))
      (refine ⟨by omega, (by (repeat' first | assumption | exact St.Sub.refl _ | exact RowOk.sub (by assumption) (by assumption) | refine St.Sub.trans ?_ (RowOk.sub (by assumption) (by assumption)) | refine St.Sub.add ?_ ?_ _ | refine St.Sub.set ?_ ?_ ?_ _ | refine St.Sub.keep ?_ ?_ | refine St.WF.leave ?_ _ | refine St.WF.add ?_ _ | refine St.WF.set ?_ ?_ _ | refine St.WF.grow ?_ _ _ _ | refine St.WF.keep ?_ ?_ | (first | omega | (simp only [RowOk.lo, nx]; first | done | omega)))), ?_⟩; refine ⟨by omega, ?_, ?_, ?_⟩; all_goals (try (first | (simp (disch := first | decide | omega | (simp only [nx]; first | done | omega)) only [go_sem, w1, q2]; first | done | rfl) | rfl)))
      rw [packH_take l i hlt1, if_neg (fun h => he h.symm), hp, ← List.take_succ_eq_append_getElem hlt1]
  · have b2 : decide (((i + 1 : Nat) : Int) < (l.length : Int)) = false := by simp; omega
    (simp (disch := first | decide | omega | (simp only [nx]; first | done | omega)) only [go_sem, q0, q3, q2, b2]; (repeat with_reducible refine aI ?_))
    have hp' : packH l = l := by
      have h3 : l.length ≤ i + 1 := by omega
      rw [List.take_of_length_le h3] at hp
      exact hp
    rw [hp']
    exact ⟨zs, rfl, ⟨ho.ob, ho.ln, by show k < tn; omega⟩, by omega, fun _ _ _ h => h⟩
end
end Go.Proofs.YtonncfminojejaaDoor

namespace Go.Proofs.YtonncfminojejaaDoor
open Go.RowKit Go.Sort Go.Shelf
def sortHsL_ren : Go.Shelf.Ren := ⟨fun | 6 => 42 | 15 => 55 | 14 => 54 | 28 => 69 | 29 => 70 | 20 => 61 | 21 => 62 | 22 => 63 | 23 => 64 | 24 => 65 | 25 => 66 | 26 => 67 | 27 => 68 | 46 => 73 | 47 => 74 | 48 => 75 | 49 => 76 | 50 => 77 | 57 => 79 | n => n, fun | 22 => 39 | 24 => 37 | 25 => 83 | 3 => 3 | 39 => 106 | 0 => 0 | 53 => 133 | 55 => 135 | 4 => 4 | 46 => 126 | 45 => 125 | 50 => 130 | 5 => 5 | 9 => 9 | 66 => 138 | 70 => 142 | 76 => 145 | 77 => 146 | n => n, fun | n => n⟩
theorem sortHsL : Go.Proofs.SlLaysF0.n6 Tryd.prog sortHsL_ren := {
  mixed := by kernel_rfl
  f6 := ⟨Tryd.f42.name, by decide, Tryd.func42.trans (congrArg some (by kernel_rfl))⟩
  f14 := ⟨Tryd.f54.name, by decide, Tryd.func54.trans (congrArg some (by kernel_rfl))⟩
  f15 := Tryd.func55.trans (congrArg some (by kernel_rfl))
  f20 := ⟨Tryd.f61.name, by decide, Tryd.func61.trans (congrArg some (by kernel_rfl))⟩
  f21 := ⟨Tryd.f62.name, by decide, Tryd.func62.trans (congrArg some (by kernel_rfl))⟩
  f22 := ⟨Tryd.f63.name, by decide, Tryd.func63.trans (congrArg some (by kernel_rfl))⟩
  f23 := ⟨Tryd.f64.name, by decide, Tryd.func64.trans (congrArg some (by kernel_rfl))⟩
  f24 := ⟨Tryd.f65.name, by decide, Tryd.func65.trans (congrArg some (by kernel_rfl))⟩
  f25 := ⟨Tryd.f66.name, by decide, Tryd.func66.trans (congrArg some (by kernel_rfl))⟩
  f26 := ⟨Tryd.f67.name, by decide, Tryd.func67.trans (congrArg some (by kernel_rfl))⟩
  f27 := ⟨Tryd.f68.name, by decide, Tryd.func68.trans (congrArg some (by kernel_rfl))⟩
  f28 := Tryd.func69.trans (congrArg some (by kernel_rfl))
  f29 := Tryd.func70.trans (congrArg some (by kernel_rfl))
  f46 := ⟨Tryd.f73.name, by decide, Tryd.func73.trans (congrArg some (by kernel_rfl))⟩
  f47 := Tryd.func74.trans (congrArg some (by kernel_rfl))
  f48 := Tryd.func75.trans (congrArg some (by kernel_rfl))
  f49 := ⟨Tryd.f76.name, by decide, Tryd.func76.trans (congrArg some (by kernel_rfl))⟩
  f50 := ⟨Tryd.f77.name, by decide, Tryd.func77.trans (congrArg some (by kernel_rfl))⟩
  f57 := ⟨Tryd.f79.name, by decide, Tryd.func79.trans (congrArg some (by kernel_rfl))⟩
  t0 := Tryd.underlying0
  a0 := Tryd.isAgg0
  z0 := Tryd.sizeOf0
  v0 := Tryd.zeroValue0
  t3 := Tryd.underlying3
  a3 := Tryd.isAgg3
  z3 := Tryd.sizeOf3
  v3 := Tryd.zeroValue3
  t4 := Tryd.underlying4
  a4 := Tryd.isAgg4
  z4 := Tryd.sizeOf4
  v4 := Tryd.zeroValue4
  t5 := Tryd.underlying5
  a5 := Tryd.isAgg5
  z5 := Tryd.sizeOf5
  v5 := Tryd.zeroValue5
  t9 := Tryd.underlying9
  a9 := Tryd.isAgg9
  z9 := Tryd.sizeOf9
  v9 := Tryd.zeroValue9
  t22 := Tryd.underlying39
  a22 := Tryd.isAgg39
  z22 := Tryd.sizeOf39
  v22 := Tryd.zeroValue39
  t25 := Tryd.underlying83
  a25 := Tryd.isAgg83
  z25 := Tryd.sizeOf83
  v25 := Tryd.zeroValue83
  t39 := Tryd.underlying106
  a39 := Tryd.isAgg106
  z39 := Tryd.sizeOf106
  v39 := Tryd.zeroValue106
  t45 := Tryd.underlying125
  a45 := Tryd.isAgg125
  z45 := Tryd.sizeOf125
  v45 := Tryd.zeroValue125
  t46 := Tryd.underlying126
  a46 := Tryd.isAgg126
  z46 := Tryd.sizeOf126
  v46 := Tryd.zeroValue126
  t50 := Tryd.underlying130
  a50 := Tryd.isAgg130
  z50 := Tryd.sizeOf130
  v50 := Tryd.zeroValue130
  t53 := Tryd.underlying133
  a53 := Tryd.isAgg133
  z53 := Tryd.sizeOf133
  v53 := Tryd.zeroValue133
  t55 := Tryd.underlying135
  a55 := Tryd.isAgg135
  z55 := Tryd.sizeOf135
  v55 := Tryd.zeroValue135
  t66 := Tryd.underlying138
  a66 := Tryd.isAgg138
  z66 := Tryd.sizeOf138
  v66 := Tryd.zeroValue138
  t70 := Tryd.underlying142
  a70 := Tryd.isAgg142
  z70 := Tryd.sizeOf142
  v70 := Tryd.zeroValue142
  t76 := Tryd.underlying145
  a76 := Tryd.isAgg145
  z76 := Tryd.sizeOf145
  v76 := Tryd.zeroValue145
  t77 := Tryd.underlying146
  a77 := Tryd.isAgg146
  z77 := Tryd.sizeOf146
  v77 := Tryd.zeroValue146 }
instance : Inhabited H32 := ⟨⟨List.replicate 32 0, rfl⟩⟩
theorem isAgg_hash : ∀ w, (isAgg 37).run Tryd.prog w = .ok true w := fun w => by kernel_rfl
theorem sizeOf_hash : ∀ w, (Go.sizeOf 37).run Tryd.prog w = .ok 32 w := fun w => by kernel_rfl
def hsVs (h : H32) : List Value := h.1.map bV
theorem hsVs_len (h : H32) : (hsVs h).length = 32 := by simp [hsVs, h.2]
theorem hsVs_one (h : H32) : ∀ v ∈ hsVs h, v.oneCell' = true := fun v hv => by
  obtain ⟨b, _, rfl⟩ := List.mem_map.1 hv
  rfl
theorem encH_hv (h : H32) : encH h = .agg ((hsVs h).map D.v) := by
  simp only [encH, hsVs, List.map_map]
  rfl
section
set_option maxRecDepth 200000
set_option maxHeartbeats 4000000
theorem sortCmp_d (a b : H32) : DPure Tryd.prog 43 [encH a, encH b] (.v (.int .i64 (cmpH a b))) := by
  refine dpure_of_dwp mixed Tryd.func43 rfl (fun _ _ => by kernel_rfl) (rs := [.tmp 4]) rfl (by kernel_rfl) trivial (fun S hS => ?_)
  (simp (disch := first | decide | omega | (simp only [nx]; first | done | omega)) only [go_sem]; (repeat with_reducible refine aI ?_))
  refine ddraw_mk 4 (by kernel_rfl) ?_
  (simp (disch := first | decide | omega | (simp only [nx]; first | done | omega)) only [go_sem]; (repeat with_reducible refine aI ?_))
  refine dqgo_at (cmpH_st a b (winB_hash (t := 37) a ?_) (winB_hash (t := 37) b ?_)) ?_
  · (first | (simp (disch := first | decide | omega | (simp only [nx]; first | done | omega)) only [go_sem]; first | done | rfl) | rfl)
  · (first | (simp (disch := first | decide | omega | (simp only [nx]; first | done | omega)) only [go_sem]; first | done | rfl) | rfl)
  (simp (disch := first | decide | omega | (simp only [nx]; first | done | omega)) only [go_sem]; (repeat with_reducible refine aI ?_))
  refine ⟨?_, (by (repeat' first | assumption | exact St.Sub.refl _ | exact RowOk.sub (by assumption) (by assumption) | refine St.Sub.trans ?_ (RowOk.sub (by assumption) (by assumption)) | refine St.Sub.add ?_ ?_ _ | refine St.Sub.set ?_ ?_ ?_ _ | refine St.Sub.keep ?_ ?_ | refine St.WF.leave ?_ _ | refine St.WF.add ?_ _ | refine St.WF.set ?_ ?_ _ | refine St.WF.grow ?_ _ _ _ | refine St.WF.keep ?_ ?_ | (first | omega | (simp only [RowOk.lo, nx]; first | done | omega))))⟩
  rfl
variable {S : St}
theorem sort0H_d (k c : Nat) : DPure Tryd.prog 42 [.win k 0 0 c, .fn (.func 43) [] []] (.tup []) := by
  refine dpure_of_dwp mixed Tryd.func42 rfl (fun _ _ => by kernel_rfl) (rs := []) rfl (by kernel_rfl) trivial (fun S hS => ?_)
  have hcv : pureRun Tryd.prog (convert 3 106 (.int .i64 0)) = some (.int .u64 0) := by kernel_rfl
  (simp (disch := first | decide | omega | (simp only [nx]; first | done | omega)) only [go_sem, hcv]; (repeat with_reducible refine aI ?_))
  refine DCalls.of_pure (bitsLen_d sortHsL (by intro _ _; kernel_rfl) 0 (by omega)) ?_
  (simp (disch := first | decide | omega | (simp only [nx]; first | done | omega)) only [go_sem]; (repeat with_reducible refine aI ?_))
  refine dcalls_inline mixed Tryd.func54 rfl (fun _ _ => by kernel_rfl) (rs := []) rfl (by kernel_rfl) (fun hS => ?_)
  (simp (disch := first | decide | omega | (simp only [nx]; first | done | omega)) only [go_sem]; (repeat with_reducible refine aI ?_))
  refine dloop_fuel 1 (by (repeat' first | assumption | refine St.WF.leave ?_ _ | refine St.WF.add ?_ _ | refine St.WF.set ?_ ?_ _ | refine St.WF.grow ?_ _ _ _ | refine St.WF.keep ?_ ?_ | (first | omega | (simp only [RowOk.lo, nx]; first | done | omega)))) (by kernel_rfl) ?_
  rw [loopN_eq]
  have b1 : decide (IntKind.i64.wrap (0 - 0) ≤ 12) = true := by decide
  have b2 : decide ((1 : Int) < 0) = false := by decide
  (simp (disch := first | decide | omega | (simp only [nx]; first | done | omega)) only [go_sem, b1]; (repeat with_reducible refine aI ?_))
  refine dcalls_inline mixed Tryd.func61 rfl (fun _ _ => by kernel_rfl) (rs := []) rfl (by kernel_rfl) (fun hS => ?_)
  have b3 : IntKind.i64.wrap (0 + 1) = 1 := by decide
  (simp (disch := first | decide | omega | (simp only [nx]; first | done | omega)) only [go_sem, b3]; (repeat with_reducible refine aI ?_))
  refine dloop_fuel 1 (by (repeat' first | assumption | refine St.WF.leave ?_ _ | refine St.WF.add ?_ _ | refine St.WF.set ?_ ?_ _ | refine St.WF.grow ?_ _ _ _ | refine St.WF.keep ?_ ?_ | (first | omega | (simp only [RowOk.lo, nx]; first | done | omega)))) (by kernel_rfl) ?_
  rw [loopN_eq]
  (simp (disch := first | decide | omega | (simp only [nx]; first | done | omega)) only [go_sem, b2]; (repeat with_reducible refine aI ?_))
  refine ⟨?_, (by (repeat' first | assumption | exact St.Sub.refl _ | exact RowOk.sub (by assumption) (by assumption) | refine St.Sub.trans ?_ (RowOk.sub (by assumption) (by assumption)) | refine St.Sub.add ?_ ?_ _ | refine St.Sub.set ?_ ?_ ?_ _ | refine St.Sub.keep ?_ ?_ | refine St.WF.leave ?_ _ | refine St.WF.add ?_ _ | refine St.WF.set ?_ ?_ _ | refine St.WF.grow ?_ _ _ _ | refine St.WF.keep ?_ ?_ | (first | omega | (simp only [RowOk.lo, nx]; first | done | omega))))⟩
  rfl
theorem sortHs_w {k c : Nat} {zs : List D} (l : List H32) (ho : OwnH S k c zs l) (hn : l.length ≤ 1000000) :
    DCalls Tryd.prog 42 [.win k 0 l.length c, .fn (.func 43) [] []] S (fun d T => d = .tup [] ∧ ∃ l' : List H32, l'.Perm l ∧ l'.Pairwise (fun a b => ltOf cmpH b a = false) ∧ T = S.set k (ownOb 37 (l'.map encH) zs c)) := by
  rcases Nat.eq_zero_or_pos c with h0 | h0
  · subst h0
    have hl : l = [] := List.eq_nil_of_length_eq_zero (by have := ho.le; omega)
    subst hl
    refine (sort0H_d k 0 S).mono ?_
    rintro d T ⟨rfl, rfl⟩
    exact ⟨rfl, [], .nil, .nil, (ob_self ho.ob).symm⟩
  · have hk := ho.ob
    rw [ownOb_box h0] at hk
    have key := dsort (S := S) (k := k) (c := c) (A := []) (B := zs) (t := 37) (l := l) rfl sortHsL isAgg_hash sizeOf_hash (by intro _ _; kernel_rfl) hsVs_len hsVs_one encH_hv swo_cmpH (g := 43) (by intro _ _; kernel_rfl) sortCmp_d hk hn
    refine DCalls.mono key ?_
    rintro d T ⟨rfl, l', h1, h2, rfl⟩
    exact ⟨rfl, l', h1, h2, by rw [ownOb_box h0]; rfl⟩
theorem hsort_w {S : St} (own : Own) (l : List H32) (hn : l.length ≤ 1000000) :
    DCalls Tryd.prog 29 [.sl own (l.map encH)] S fun d T => ∃ k c zs, d = .win k 0 (sortH l).length c ∧ S.next ≤ k ∧ OwnH T k c zs (sortH l) ∧ S.Sub T := by
  refine dcalls_inline mixed Tryd.func29 rfl (fun _ _ => by kernel_rfl) (rs := [.tmp 2]) rfl (by kernel_rfl) (fun hS => ?_)
  (simp (disch := first | decide | omega | (simp only [nx]; first | done | omega)) only [go_sem]; (repeat with_reducible refine aI ?_))
  refine dapp_nil elHs (dappend_fresh elHs (by rw [elHs]; rfl) zeHs zoHs (es2 := l.map encH) (srcOk_sl (by rw [szHs]; exact wHs l)) rfl (by rw [List.length_map]; omega) (by rw [byHs, List.length_map]; omega) fun c zs h1 h2 => ?_)
  rw [szHs] at h2
  (simp (disch := first | decide | omega | (simp only [nx]; first | done | omega)) only [go_sem]; (repeat with_reducible refine aI ?_))
  refine (sortHs_w (S := S.add (ownOb 37 (l.map encH) zs c)) l ⟨by (first | (simp (disch := first | decide | omega | (simp only [nx]; first | done | omega)) only [go_sem]; first | done | rfl) | rfl), h2, by show S.next < S.next + 1; omega⟩ hn).mono ?_
  rintro d T ⟨rfl, l', hp, hs, rfl⟩
  (simp (disch := first | decide | omega | (simp only [nx]; first | done | omega)) only [go_sem]; (repeat with_reducible refine aI ?_))
  have hl := hp.length_eq
  have hpl := packH_sort hp hs
  have key := compactH_w (S := (S.add (ownOb 37 (l.map encH) zs c)).set S.next (ownOb 37 (l'.map encH) zs c)) (k := S.next) (c := c) (zs := zs) l' ⟨by (first | (simp (disch := first | decide | omega | (simp only [nx]; first | done | omega)) only [go_sem]; first | done | rfl) | rfl), by simp only [List.length_append, flatHs_len] at h2 ⊢; omega, by show S.next < S.next + 1; omega⟩ (by omega)
  rw [hl, hpl] at key
  refine key.mono ?_
  rintro d T ⟨zs', rfl, ho, hnx, hf⟩
  (simp (disch := first | decide | omega | (simp only [nx]; first | done | omega)) only [go_sem]; (repeat with_reducible refine aI ?_))
  refine ⟨S.next, c, zs', rfl, Nat.le_refl _, ho, by have : S.next + 1 ≤ T.next := hnx; omega, fun j o h => ?_⟩
  have := hS.lt h
  have hj : j ≠ S.next := by omega
  refine hf j o hj ?_
  (first | (simp (disch := first | decide | omega | (simp only [nx]; first | done | omega)) only [go_sem, hj, h]; first | done | rfl) | rfl)
theorem hsort_d (own : Own) (l : List H32) (hn : l.length ≤ 1000000) : DPure Tryd.prog 29 [.sl own (l.map encH)] (.sl .no ((sortH l).map encH)) := dpure_ownH fun _ _ => hsort_w own l hn
end
end Go.Proofs.YtonncfminojejaaDoor

namespace Go.Proofs.YtonncfminojejaaDoor
open Go.RowKit
def ixOf {α : Type} (p : α → Bool) (l : List α) : Int := if l.any p then ((l.findIdx p : Nat) : Int) else -1
theorem ixOf_at {α : Type} {p : α → Bool} {l : List α} {i : Nat} (h : i < l.length) (hp : p l[i] = true) (hs : ∀ j (h : j < l.length), j < i → p l[j] = false) : ixOf p l = (i : Int) := by
  have h1 : l.any p = true := List.any_eq_true.2 ⟨l[i], List.getElem_mem _, hp⟩
  have h2 : l.findIdx p = i := by
    rw [List.findIdx_eq h]
    exact ⟨hp, fun j hj => hs j (by omega) hj⟩
  rw [ixOf, if_pos h1, h2]
theorem ixOf_none {α : Type} {p : α → Bool} {l : List α} (hs : ∀ j (h : j < l.length), p l[j] = false) : ixOf p l = -1 := by
  have h1 : l.any p = false := List.any_eq_false.2 fun x hx => by
    obtain ⟨i, hi, rfl⟩ := List.getElem_of_mem hx
    rw [hs i hi]; simp
  rw [ixOf, if_neg (by rw [h1]; simp)]
theorem ixOf_any {α : Type} (p : α → Bool) (l : List α) : decide (ixOf p l ≥ 0) = l.any p := by
  unfold ixOf
  cases l.any p <;> simp
def keepN (p : H32 → Bool) (l : List H32) (q : Nat) : List H32 := (l.take q).filter fun x => !p x
def dcur (p : H32 → Bool) (l : List H32) (q : Nat) : List H32 := keepN p l q ++ l.drop (keepN p l q).length
theorem keepN_len (p : H32 → Bool) (l : List H32) (q : Nat) : (keepN p l q).length ≤ q ∧ (keepN p l q).length ≤ l.length := by
  have h := List.length_filter_le (fun x => !p x) (l.take q)
  rw [List.length_take] at h
  unfold keepN
  omega
theorem keepN_succ {p : H32 → Bool} {l : List H32} {q : Nat} (h : q < l.length) : keepN p l (q + 1) = keepN p l q ++ if p l[q] then [] else [l[q]] := by
  unfold keepN
  rw [List.take_succ_eq_append_getElem h, List.filter_append]
  congr 1
  cases hp : p l[q] <;> simp [hp]
theorem dcur_len (p : H32 → Bool) (l : List H32) (q : Nat) : (dcur p l q).length = l.length := by
  have := keepN_len p l q
  rw [dcur, List.length_append, List.length_drop]
  omega
theorem dcur_at (p : H32 → Bool) (l : List H32) (q i : Nat) (h : (keepN p l q).length ≤ i) (hi : i < l.length) : (dcur p l q)[i]'(by rw [dcur_len]; exact hi) = l[i] := by
  unfold dcur
  rw [List.getElem_append_right h, List.getElem_drop]
  congr 1
  omega
theorem dcur_none {p : H32 → Bool} {l : List H32} {q : Nat} (h : keepN p l q = l.take (keepN p l q).length) : dcur p l q = l := by
  unfold dcur
  conv => lhs; lhs; rw [h]
  rw [List.take_append_drop]
theorem dcur_skip {p : H32 → Bool} {l : List H32} {q : Nat} (h : q < l.length) (hp : p l[q] = true) : dcur p l (q + 1) = dcur p l q := by
  unfold dcur
  rw [keepN_succ h, if_pos hp, List.append_nil]
theorem dcur_put {p : H32 → Bool} {l : List H32} {q : Nat} (h : q < l.length) (hp : p l[q] = false) : dcur p l (q + 1) = (dcur p l q).set (keepN p l q).length l[q] := by
  have hk := keepN_len p l q
  have hq : (keepN p l q).length < l.length := by omega
  unfold dcur
  rw [keepN_succ h, if_neg (by rw [hp]; simp), List.set_append_right _ _ (Nat.le_refl _), Nat.sub_self, List.drop_eq_getElem_cons hq, List.set_cons_zero, List.length_append, List.append_assoc]
  rfl
theorem sub_tmp0 {S : St} (hS : S.WF) {k tn : Nat} {b zb vb : Ob} (hn : S.next ≤ tn) (hk : k < S.next) : (S.set k b).Sub ((({ next := tn, ob := (S.set k b).ob } : St).add zb).set tn vb) := ⟨Nat.le_succ_of_le hn, fun j o hj => by
  have hjn : j < S.next := (hS.set hk b).lt hj
  show (if j = tn then _ else if j = tn then _ else (S.set k b).ob j) = _
  rw [if_neg (by omega), if_neg (by omega)]
  exact hj⟩
theorem sub_tmp1 {S : St} (hS : S.WF) {k tn : Nat} {b b' zb vb : Ob} (hn : S.next ≤ tn) (hk : k < S.next) : (S.set k b').Sub (((({ next := tn, ob := (S.set k b).ob } : St).add zb).set tn vb).set k b') := ⟨Nat.le_succ_of_le hn, fun j o hj => by
  have hjn : j < S.next := (hS.set hk b').lt hj
  show (if j = k then _ else if j = tn then _ else if j = tn then _ else if j = k then _ else S.ob j) = _
  by_cases e : j = k
  · rw [if_pos e]
    rw [e, set_ob, if_pos rfl] at hj
    exact hj
  · rw [set_ob, if_neg e] at hj
    rw [if_neg e, if_neg (by omega), if_neg (by omega), if_neg e]
    exact hj⟩
section
set_option maxRecDepth 200000
set_option maxHeartbeats 4000000
theorem ixH_w {S : St} {k c : Nat} {zs : List D} {l : List H32} {g : FuncId} {fs : List D} (p : H32 → Bool) (ho : OwnH S k c zs l) (hl : l.length ≤ 1000000)
    (hc : ∀ x T, S.next ≤ T.next → T.WF → (∀ j o, j ≠ k → S.ob j = some o → T.ob j = some o) → DAt Tryd.prog g (fs ++ [encH x]) T (.v (.bool (p x)))) :
    DAt Tryd.prog 41 [.win k 0 l.length c, .fn (.func g) fs []] S (.v (.int .i64 (ixOf p l))) := by
  refine dat_of_dwpL mixed Tryd.func41 rfl (fun _ _ => by kernel_rfl) (rs := [.tmp 4]) rfl (by kernel_rfl) (by trivial) (fun hS => ?_)
  (simp (disch := first | decide | omega | (simp only [nx]; first | done | omega)) only [go_sem]; (repeat with_reducible refine aI ?_))
  (refine dloop_st (fun t => List.contains [4, 5, 8, 9, 10, 11, 12, 13, 14, 15, 16, 17, 18] t) (by kernel_rfl) ?_ (l.length) (fun i f => i ≤ l.length ∧ f 8 = .v (.int .i64 (i : Nat)) ∧ (∀ j (h : j < l.length), j < i → p l[j] = false)) ?_ ?_; (exact (by (repeat' first | assumption | refine St.WF.leave ?_ _ | refine St.WF.add ?_ _ | refine St.WF.set ?_ ?_ _ | refine St.WF.grow ?_ _ _ _ | refine St.WF.keep ?_ ?_ | (first | omega | (simp only [RowOk.lo, nx]; first | done | omega))))); (exact ⟨(by omega), (by (first | (simp (disch := first | decide | omega | (simp only [nx]; first | done | omega)) only [go_sem]; first | done | rfl) | rfl)), (fun j _ h => absurd h (by omega))⟩); intro i g tn hn hT hg hI; obtain ⟨le, q8, hs⟩ := hI; have q0 := hg 0 rfl; have q1 := hg 1 rfl; have q7 := hg 7 rfl; simp (disch := first | decide | omega | (simp only [nx]; first | done | omega)) only [go_sem] at q0 q1 q7; clear hg; have hn' := hn; try simp only [add_next, set_next, grow_next, leave_next, drop_next] at hn')
  by_cases hlt : i < l.length
  · have b1 : decide ((i : Int) < (l.length : Int)) = true := decide_eq_true (by omega)
    have w1 : IntKind.i64.wrap ((i : Int) + 1) = ((i + 1 : Nat) : Int) := IntWalk.i64_in _ ⟨by omega, by omega⟩
    have hk := ho.pos (by omega)
    have hcs := ho.ln
    have hle := ho.le
    have m1 := hs_at (zs := zs) hlt
    (simp (disch := first | decide | omega | (simp only [nx]; first | done | omega)) only [go_sem, q0, q1, q7, q8, b1, hlt, hk, Nat.zero_add, hcs, m1]; (repeat with_reducible refine aI ?_))
    refine go_at (hc l[i] ⟨tn, S.ob⟩ hn hT (fun _ _ _ h => h)) ?_
    cases hp : p l[i] with
    | false =>
      (simp (disch := first | decide | omega | (simp only [nx]; first | done | omega)) only [go_sem, q8, w1]; (repeat with_reducible refine aI ?_))
      refine ⟨by omega, ⟨hn, fun _ _ h => h⟩, by omega, ?_, fun j hj hji => ?_⟩
      · (first | (simp (disch := first | decide | omega | (simp only [nx]; first | done | omega)) only [go_sem, w1]; first | done | rfl) | rfl)
      · by_cases e : j = i
        · subst e; exact hp
        · exact hs j hj (by omega)
    | true =>
      (simp (disch := first | decide | omega | (simp only [nx]; first | done | omega)) only [go_sem]; (repeat with_reducible refine aI ?_))
      refine ⟨?_, ⟨hn, fun _ _ h => h⟩⟩
      rw [ixOf_at hlt hp hs]
      rfl
  · have b1 : decide ((i : Int) < (l.length : Int)) = false := decide_eq_false (by omega)
    (simp (disch := first | decide | omega | (simp only [nx]; first | done | omega)) only [go_sem, q7, q8, b1]; (repeat with_reducible refine aI ?_))
    refine ⟨?_, ⟨hn, fun _ _ h => h⟩⟩
    rw [ixOf_none fun j hj => hs j hj (by omega)]
    rfl
theorem deleteH_w {S : St} {k c : Nat} {zs : List D} {l : List H32} {g : FuncId} {fs : List D} (p : H32 → Bool) (ho : OwnH S k c zs l) (hl : l.length ≤ 1000000)
    (hc : ∀ x T, S.next ≤ T.next → T.WF → (∀ j o, j ≠ k → S.ob j = some o → T.ob j = some o) → DAt Tryd.prog g (fs ++ [encH x]) T (.v (.bool (p x)))) :
    DCalls Tryd.prog 28 [.win k 0 l.length c, .fn (.func g) fs []] S (fun d T => ∃ zs', d = .win k 0 (l.filter fun x => !p x).length c ∧ OwnH T k c zs' (l.filter fun x => !p x) ∧ S.next ≤ T.next ∧ ∀ j o, j ≠ k → S.ob j = some o → T.ob j = some o) := by
  have hle := ho.le
  have hlt := ho.lt
  refine dcalls_inline mixed Tryd.func28 rfl (fun _ _ => by kernel_rfl) (rs := [.tmp 4]) rfl (by kernel_rfl) (fun hS => ?_)
  (simp (disch := first | decide | omega | (simp only [nx]; first | done | omega)) only [go_sem]; (repeat with_reducible refine aI ?_))
  refine go_at (ixH_w p ho hl hc) ?_
  by_cases hany : l.any p = true
  · have hi0 : l.findIdx p < l.length := List.findIdx_lt_length_of_exists (by obtain ⟨x, h1, h2⟩ := List.any_eq_true.1 hany; exact ⟨x, h1, h2⟩)
    have hp0 : p l[l.findIdx p] = true := List.findIdx_getElem (w := hi0)
    have hpre : ∀ j (h : j < l.length), j < l.findIdx p → p l[j] = false := fun j h hj => by
      have := List.not_of_lt_findIdx hj
      simpa using this
    have e0 : ixOf p l = ((l.findIdx p : Nat) : Int) := by rw [ixOf, if_pos hany]
    rw [e0]
    generalize l.findIdx p = i0 at *
    have hkn : keepN p l (i0 + 1) = l.take i0 := by
      rw [keepN_succ hi0, if_pos hp0, List.append_nil, keepN]
      refine List.filter_eq_self.2 fun x hx => ?_
      obtain ⟨j, hj, rfl⟩ := List.getElem_of_mem hx
      rw [List.length_take] at hj
      rw [List.getElem_take, hpre j (by omega) (by omega)]
      rfl
    have hd0 : dcur p l (i0 + 1 + 0) = l := dcur_none (by rw [Nat.add_zero, hkn, List.length_take]; congr 1; omega)
    have hl0 : (keepN p l (i0 + 1 + 0)).length = i0 := by rw [Nat.add_zero, hkn, List.length_take]; omega
    have b1 : (((i0 : Nat) : Int) == -1) = false := by rw [beq_eq_false_iff_ne]; omega
    have w0 : IntKind.i64.wrap (((i0 : Nat) : Int) + 1) = ((i0 + 1 : Nat) : Int) := IntWalk.i64_in _ ⟨by omega, by omega⟩
    have hc0 : 0 < c := by omega
    have hk : S.ob k = some (.box 37 (flat ((dcur p l (i0 + 1 + 0)).map encH) ++ zs)) := by rw [hd0]; exact ho.pos (by omega)
    (simp (disch := first | decide | omega | (simp only [nx]; first | done | omega)) only [go_sem, b1, w0]; (repeat with_reducible refine aI ?_))
    (refine dloop_var (fun t => List.contains [5, 6, 7, 16, 17, 18, 19, 20, 21, 22, 23, 24, 25, 26, 27, 28, 29, 30, 31, 32, 33, 34, 35] t) (by kernel_rfl) ?_ (l.length - (i0 + 1)) (k) (fun i => .box 37 (flat ((dcur p l (i0 + 1 + i)).map encH) ++ zs)) ?_ (fun i f => i ≤ l.length - (i0 + 1) ∧ f 6 = .v (.int .i64 ((i0 + 1 + i : Nat) : Int)) ∧ f 5 = .v (.int .i64 ((keepN p l (i0 + 1 + i)).length : Nat))) ?_ ?_; (exact (by (repeat' first | assumption | refine St.WF.leave ?_ _ | refine St.WF.add ?_ _ | refine St.WF.set ?_ ?_ _ | refine St.WF.grow ?_ _ _ _ | refine St.WF.keep ?_ ?_ | (first | omega | (simp only [RowOk.lo, nx]; first | done | omega))))); (exact (by (first | (first | (simp (disch := first | decide | omega | (simp only [nx]; first | done | omega)) only [go_sem]; first | done | rfl) | rfl) | (first | (simp (disch := first | decide | omega | (simp only [nx]; first | done | omega)) only [go_sem, hk, hl0, w0]; first | done | rfl) | rfl)))); (exact ⟨(by omega), (by (first | (simp (disch := first | decide | omega | (simp only [nx]; first | done | omega)) only [go_sem, hk, hl0, w0]; first | done | rfl) | rfl)), (by (first | (simp (disch := first | decide | omega | (simp only [nx]; first | done | omega)) only [go_sem, hk, hl0, w0]; first | done | rfl) | rfl))⟩); intro i g tn hn hT hg hI; obtain ⟨le, q6, q5⟩ := hI; have q0 := hg 0 rfl; have q1 := hg 1 rfl; have q4 := hg 4 rfl; simp (disch := first | decide | omega | (simp only [nx]; first | done | omega)) only [go_sem, hk, hl0, w0] at q0 q1 q4; clear hg; have hn' := hn; try simp only [add_next, set_next, grow_next, leave_next, drop_next] at hn')
    have hkl := keepN_len p l (i0 + 1 + i)
    have hkl2 : (keepN p l (i0 + 1 + i)).length ≤ i0 + i := by
      have h1 : ∀ n, (keepN p l (i0 + 1 + n)).length ≤ i0 + n := fun n => by
        induction n with
        | zero => rw [hl0]; omega
        | succ n ih =>
          rcases Nat.lt_or_ge (i0 + 1 + n) l.length with h | h
          · rw [show i0 + 1 + (n + 1) = i0 + 1 + n + 1 by omega, keepN_succ h, List.length_append]
            split <;> simp <;> omega
          · have e : keepN p l (i0 + 1 + (n + 1)) = keepN p l (i0 + 1 + n) := by unfold keepN; rw [List.take_of_length_le (by omega), List.take_of_length_le h]
            rw [e]; omega
      exact h1 i
    have hdl := dcur_len p l (i0 + 1 + i)
    have hcs2 : (flat ((dcur p l (i0 + 1 + i)).map encH) ++ zs).length = c * 32 := by
      have := ho.ln
      simp only [List.length_append, flatHs_len, hdl] at this ⊢
      exact this
    by_cases hlt2 : i0 + 1 + i < l.length
    · have b2 : decide (((i0 + 1 + i : Nat) : Int) < ((l.length : Nat) : Int)) = true := decide_eq_true (by omega)
      have w1 : IntKind.i64.wrap (((i0 + 1 + i : Nat) : Int) + 1) = ((i0 + 1 + (i + 1) : Nat) : Int) := IntWalk.i64_in _ ⟨by omega, by omega⟩
      have w2 : IntKind.i64.wrap ((((keepN p l (i0 + 1 + i)).length : Nat) : Int) + 1) = (((keepN p l (i0 + 1 + i)).length + 1 : Nat) : Int) := IntWalk.i64_in _ ⟨by omega, by omega⟩
      have m3 := hs_at (l := dcur p l (i0 + 1 + i)) (zs := zs) (by omega : i0 + 1 + i < _)
      rw [dcur_at p l _ _ (by omega) hlt2] at m3
      have lw := l[i0 + 1 + i].2
      have hkt : k ≠ tn := by omega
      (simp (disch := first | decide | omega | (simp only [nx]; first | done | omega)) only [go_sem, q0, q1, q5, q6, b2, Nat.zero_add, hcs2, m3, lw]; (repeat with_reducible refine aI ?_))
      refine go_at (hc l[i0 + 1 + i] _ (by show S.next ≤ tn + 1; omega) (by (repeat' first | assumption | refine St.WF.leave ?_ _ | refine St.WF.add ?_ _ | refine St.WF.set ?_ ?_ _ | refine St.WF.grow ?_ _ _ _ | refine St.WF.keep ?_ ?_ | (first | omega | (simp only [RowOk.lo, nx]; first | done | omega)))) (fun j o hj e => ?_)) ?_
      · have hjn := hS.lt e
        show (if j = tn then _ else if j = tn then _ else if j = k then _ else S.ob j) = _
        rw [if_neg (by omega), if_neg (by omega), if_neg hj, e]
      cases hp : p l[i0 + 1 + i] with
      | true =>
        (simp (disch := first | decide | omega | (simp only [nx]; first | done | omega)) only [go_sem, q6, w1]; (repeat with_reducible refine aI ?_))
        have e1 : keepN p l (i0 + 1 + (i + 1)) = keepN p l (i0 + 1 + i) := by rw [show i0 + 1 + (i + 1) = i0 + 1 + i + 1 by omega, keepN_succ hlt2, if_pos hp, List.append_nil]
        have e2 : dcur p l (i0 + 1 + (i + 1)) = dcur p l (i0 + 1 + i) := dcur_skip hlt2 hp
        refine ⟨by omega, ?_, by omega, ?_, ?_⟩
        · show (St.set _ k (Ob.box 37 (flat ((dcur p l (i0 + 1 + (i + 1))).map encH) ++ zs))).Sub _
          rw [e2]
          exact sub_tmp0 hS hn hlt
        · (first | (simp (disch := first | decide | omega | (simp only [nx]; first | done | omega)) only [go_sem, w1]; first | done | rfl) | rfl)
        · rw [e1]; (first | (simp (disch := first | decide | omega | (simp only [nx]; first | done | omega)) only [go_sem, q5]; first | done | rfl) | rfl)
      | false =>
        (simp (disch := first | decide | omega | (simp only [nx]; first | done | omega)) only [go_sem, q0, q5, q6, Nat.zero_add, hcs2, lw, hdl, w1, w2]; (repeat with_reducible refine aI ?_))
        have e1 : (keepN p l (i0 + 1 + (i + 1))).length = (keepN p l (i0 + 1 + i)).length + 1 := by rw [show i0 + 1 + (i + 1) = i0 + 1 + i + 1 by omega, keepN_succ hlt2, if_neg (by rw [hp]; simp), List.length_append]; rfl
        have e2 : dcur p l (i0 + 1 + (i + 1)) = (dcur p l (i0 + 1 + i)).set (keepN p l (i0 + 1 + i)).length l[i0 + 1 + i] := dcur_put hlt2 hp
        refine ⟨by omega, ?_, by omega, ?_, ?_⟩
        · show (St.set _ k (Ob.box 37 (flat ((dcur p l (i0 + 1 + (i + 1))).map encH) ++ zs))).Sub _
          have key := splice_flat' (es := (dcur p l (i0 + 1 + i)).map encH) (zs := zs) (z := 32) (i := (keepN p l (i0 + 1 + i)).length) (y := encH l[i0 + 1 + i]) (by rw [List.length_map]; omega) (wHs _) (width_encH _)
          rw [cells_encH] at key
          rw [key, e2, List.map_set]
          exact sub_tmp1 hS hn hlt
        · (first | (simp (disch := first | decide | omega | (simp only [nx]; first | done | omega)) only [go_sem, w1]; first | done | rfl) | rfl)
        · rw [e1]; (first | (simp (disch := first | decide | omega | (simp only [nx]; first | done | omega)) only [go_sem, w2]; first | done | rfl) | rfl)
    · have b2 : decide (((i0 + 1 + i : Nat) : Int) < ((l.length : Nat) : Int)) = false := decide_eq_false (by omega)
      (simp (disch := first | decide | omega | (simp only [nx]; first | done | omega)) only [go_sem, q0, q5, q6, b2]; (repeat with_reducible refine aI ?_))
      have hie : i0 + 1 + i = l.length := by omega
      have hpe : keepN p l (i0 + 1 + i) = l.filter fun x => !p x := by rw [hie, keepN, List.take_length]
      have hpl := List.length_filter_le (fun x => !p x) l
      have hmul : (l.length - (l.filter fun x => !p x).length) * 32 + (l.filter fun x => !p x).length * 32 = l.length * 32 := by rw [← Nat.add_mul]; congr 1; omega
      have hcc := hcs2
      rw [List.length_append, flatHs_len, hdl] at hcc
      rw [hpe] at hkl2 ⊢
      rw [winOff_lt (by omega), Nat.zero_add]
      refine dclear_win elHs zeHs zoHs (bt := 37) (cs := flat ((dcur p l (i0 + 1 + i)).map encH) ++ zs) (by (first | (simp (disch := first | decide | omega | (simp only [nx]; first | done | omega)) only [go_sem]; first | done | rfl) | rfl)) (by rw [szHs, hcs2]; omega) fun z2 hz2 => ?_
      rw [szHs] at hz2
      have e5 : flat ((dcur p l (i0 + 1 + i)).map encH) = flat ((l.filter fun x => !p x).map encH) ++ flat ((l.drop (l.filter fun x => !p x).length).map encH) := by rw [dcur, hpe, List.map_append, flat_append]
      rw [e5, List.append_assoc, splice_at (by rw [flatHs_len])]
      (simp (disch := first | decide | omega | (simp only [nx]; first | done | omega)) only [go_sem, q0, q5, hpe, winOff_zero]; (repeat with_reducible refine aI ?_))
      refine ⟨z2 ++ List.drop z2.length (flat (List.map encH (List.drop (l.filter fun x => !p x).length l)) ++ zs), ⟨?_, ?_, ?_⟩, by omega, ?_⟩
      · rw [ownOb_box (by omega)]
        simp only [St.set, if_true, List.append_assoc]
      · have h3 := flatHs_len (l.drop (l.filter fun x => !p x).length)
        rw [List.length_drop] at h3
        simp only [List.length_append, List.length_drop, flatHs_len] at hcc ⊢
        omega
      · show k < tn
        omega
      · intro j o hj h
        simp only [St.set, if_neg hj]
        exact h
  · have hany' : l.any p = false := by simpa using hany
    have e0 : ixOf p l = -1 := by rw [ixOf, if_neg hany]
    have e1 : (l.filter fun x => !p x) = l := List.filter_eq_self.2 fun x hx => by
      have := List.any_eq_false.1 hany' x hx
      simpa using this
    rw [e0, e1]
    have b1 : ((-1 : Int) == -1) = true := by decide
    (simp (disch := first | decide | omega | (simp only [nx]; first | done | omega)) only [go_sem, b1]; (repeat with_reducible refine aI ?_))
    refine ⟨zs, ?_⟩
    first | exact ⟨rfl, ho, Nat.le_refl _, fun _ _ _ h => h⟩ | exact ⟨ho, Nat.le_refl _, fun _ _ _ h => h⟩
end
end Go.Proofs.YtonncfminojejaaDoor

namespace Go.Proofs.YtonncfminojejaaDoor
open Go.RowKit Go.Extern.Stop Go.Stop Go.Extern
/-! The value that a tree without memory stands for. -/
mutual
def D.val : D → Option Value
  | .v x => some x
  | .ifc t d => (D.val d).map (Value.iface t ·)
  | .agg cs => (valL cs).bind fun vs => bif vs.all (·.oneCell') then some (.agg vs.toArray) else none
  | _ => none
def valL : List D → Option (List Value)
  | [] => some []
  | d :: l => (D.val d).bind fun x => (valL l).map (x :: ·)
end
section
variable {P : Program} {w : World} {η : Names} {X : Nat → Nat → Prop}
mutual
theorem rep_val_iff : ∀ {d : D} {x : Value}, D.val d = some x → ∀ {y : Value}, Rep P w η X d y ↔ y = x
  | .v x, _, h, y => by simp only [D.val, Option.some.injEq] at h; subst h; simp only [Rep]
  | .ifc t d, _, h, y => by
    simp only [D.val, Option.map_eq_some_iff] at h
    obtain ⟨z, h1, rfl⟩ := h
    simp only [Rep]
    constructor
    · rintro ⟨u, rfl, hu⟩
      rw [(rep_val_iff h1).1 hu]
    · rintro rfl
      exact ⟨z, rfl, (rep_val_iff h1).2 rfl⟩
  | .agg cs, _, h, y => by
    simp only [D.val, Option.bind_eq_some_iff] at h
    obtain ⟨vs, h1, h2⟩ := h
    cases hb : vs.all (·.oneCell') with
    | false => rw [hb] at h2; cases h2
    | true =>
      rw [hb] at h2
      simp only [cond_true, Option.some.injEq] at h2
      subst h2
      simp only [Rep]
      constructor
      · rintro ⟨us, rfl, hu, _⟩
        rw [(rep_valL_iff h1).1 hu]
      · rintro rfl
        exact ⟨vs, rfl, (rep_valL_iff h1).2 rfl, fun u hu => List.all_eq_true.1 hb u hu⟩
  | .tup _, _, h, _ => by simp [D.val] at h
  | .fn _ _ _, _, h, _ => by simp [D.val] at h
  | .loc _ _, _, h, _ => by simp [D.val] at h
  | .rd _ _, _, h, _ => by simp [D.val] at h
  | .sl _ _, _, h, _ => by simp [D.val] at h
  | .win _ _ _ _, _, h, _ => by simp [D.val] at h
theorem rep_valL_iff : ∀ {l : List D} {vs : List Value}, valL l = some vs → ∀ {us : List Value}, RepL P w η X l us ↔ us = vs
  | [], _, h, us => by simp only [valL, Option.some.injEq] at h; subst h; simp only [RepL]
  | d :: l, _, h, us => by
    simp only [valL, Option.bind_eq_some_iff, Option.map_eq_some_iff] at h
    obtain ⟨x, h1, xs, h2, rfl⟩ := h
    simp only [RepL]
    constructor
    · rintro ⟨y, ys, rfl, hy, hys⟩
      rw [(rep_val_iff h1).1 hy, (rep_valL_iff h2).1 hys]
    · rintro rfl
      exact ⟨x, xs, rfl, (rep_val_iff h1).2 rfl, (rep_valL_iff h2).2 rfl⟩
end
end
section
variable {P : Program} {S : St} {K : D → St → Prop}
theorem dext {g : FuncId} {fn : Func} {e : Array Value → Sem Value} (hf : P.funcs[g]? = some fn) (hname : (fn.name == "runtime.NumGoroutine") = false) (hb : fn.body.isNone = true) (hn : Extern.findNext fn = none) (hx : Extern.find fn = some e) {args : List D}
    (h : ∀ base η w vs, Mem P base S η w → RepL P w η (Fix P S η) args vs → ∃ d S' η' v w', (e vs.toArray).run P w = .ok v w' ∧ K d S' ∧ Rep P w' η' (Fix P S' η') d v ∧ Goes P base S η w S' η' w') : DCalls P g args S K := fun base η w vs hM hr => by
  obtain ⟨d, S', η', v, w', h1, h2, h3, h4⟩ := h base η w vs hM hr
  refine .inr ⟨d, S', η', v, w', ?_, h2, h3, h4⟩
  rw [run_callFunc_extern hf hname hb hn hx, h1]
  rfl
theorem dext_pure {g : FuncId} {fn : Func} {e : Array Value → Sem Value} (hf : P.funcs[g]? = some fn) (hname : (fn.name == "runtime.NumGoroutine") = false) (hb : fn.body.isNone = true) (hn : Extern.findNext fn = none) (hx : Extern.find fn = some e) {args : List D} {us : List Value} {r : Value} {d : D}
    (hv : valL args = some us) (h : ∀ w, (e us.toArray).run P w = .ok r w) (hd : D.val d = some r) (hk : K d S) : DCalls P g args S K :=
  dext hf hname hb hn hx fun base η w vs hM hr => by
    rw [(rep_valL_iff hv).1 hr]
    exact ⟨d, S, η, r, w, h w, hk, (rep_val_iff hd).2 rfl, Goes.refl hM⟩
theorem dmeth_pure {t : TypeId} {d d' : D} {m : String} {g : FuncId} {x r : Value} (hd : D.val d = some x) (hd' : D.val d' = some r) (h : ∀ w, (method (P.types.size + Made.depth) t x m).run P w = .ok (g, r) w) : DMeth P t d m g d' := fun w η X v hr => by
  rw [(rep_val_iff hd).1 hr]
  exact ⟨r, h w, (rep_val_iff hd').2 rfl⟩
end
abbrev tyV (t : TypeId) : Value := .pointer (some ⟨1, t, none⟩)
abbrev tyD (t : TypeId) : D := .agg [.v (tyV t)]
abbrev rtD (t : TypeId) : D := .ifc 111 (tyD t)
theorem rlm (z : Sem Value) (f : TypeId → Addr → Nat → Nat → Sem Value) (v : Value) :
    ReflectliteValue.method z f #[v] = (do match ← ReflectliteValue.parts v with | none => z | some (t, a, fl) => f t a fl (fl % 32)) := rfl
theorem rls (v x : Value) : ReflectliteValue.set #[v, x] = (do
    let (some (dst, a, fl), some (src, b, _)) := (← ReflectliteValue.parts v, ← ReflectliteValue.parts x)
      | unsupported (.noEntry "extern/(internal/reflectlite.Value).Set.zeroValue")
    if fl / ReflectliteValue.flagAddr % 2 == 0 then unsupported (.noEntry "extern/(internal/reflectlite.Value).Set.unaddressable")
    let val ← loadVar src b
    if ← Rtype.directlyAssignable dst src then storeVar dst a val
    else if ← Rtype.implements dst src then
      if (← Rtype.kind src) == 20 then
        match val with
        | .nilIface => unsupported (.noEntry "extern/reflectlite: a nil value of one interface type handed on as a value of another")
        | _ => storeVar dst a val
      else storeVar dst a (.iface src val)
    else panicString ("reflectlite.Set: value of type " ++ (← Rtype.spelt src) ++ " is not assignable to type " ++ (← Rtype.spelt dst))
    pure (.tuple #[])) := rfl

section
variable {S : St} {K : D → St → Prop}
theorem unpackPEr (a : Addr) (w : World) : (ReflectliteValue.unpack (.iface 78 (.pointer (some a)))).run Tryd.prog w = .ok (.agg #[tyV 78, .pointer (some ⟨w.heap.size, 0, none⟩), .int .u64 150]) (w.alloc (.cells #[.pointer (some a)] 78)) := by kernel_rfl
theorem rlValueOfPEr {k off : Nat} (h : K (.agg [.v (tyV 78), .loc S.next 0, .v (.int .u64 150)]) (S.add (.box 78 [.loc k off]))) : DCalls Tryd.prog 50 [.ifc 78 (.loc k off)] S K :=
  dext (e := fun args => ReflectliteValue.unpack (args.getD 0 (.tuple #[]))) Tryd.func50 (by kernel_rfl) (by kernel_rfl) (by kernel_rfl) (by kernel_rfl) fun base η w vs hM hr => by
    simp only [RepL, Rep] at hr
    obtain ⟨_, _, rfl, ⟨_, rfl, b, hb, rfl⟩, rfl⟩ := hr
    have G := goes_name hM (.box 78 [.loc k off]) #[.pointer (some ⟨b, off, none⟩)] 78 (.inl ⟨_, [.pointer (some ⟨b, off, none⟩)], rfl, rfl, by simp only [RepL, Rep]; exact ⟨_, _, rfl, ⟨b, hb, rfl⟩, rfl⟩, fun x hx => by rw [List.mem_singleton] at hx; subst hx; rfl⟩)
    refine ⟨_, _, _, _, _, unpackPEr _ w, h, ?_, G⟩
    simp only [Rep, RepL]
    exact ⟨[_, _, _], rfl, ⟨_, _, rfl, rfl, _, _, rfl, ⟨w.heap.size, by simp only [Names.add, ↓reduceIte], rfl⟩, _, _, rfl, rfl, rfl⟩, fun x hx => by simp only [List.mem_cons, List.not_mem_nil, or_false] at hx; rcases hx with rfl | rfl | rfl <;> rfl⟩
theorem typePEr (a : Addr) (w : World) : (ReflectliteValue.methodAny (ReflectliteValue.valueError "reflectlite.Value.Type" 0) (fun t _ _ _ => ReflectliteType.toType t) #[.agg #[tyV 78, .pointer (some a), .int .u64 150]]).run Tryd.prog w = .ok (.iface 111 (.agg #[tyV 78])) w := by kernel_rfl
theorem rlTypePEr {k off : Nat} (h : K (rtD 78) S) : DCalls Tryd.prog 51 [.agg [.v (tyV 78), .loc k off, .v (.int .u64 150)]] S K :=
  dext (e := ReflectliteValue.methodAny (ReflectliteValue.valueError "reflectlite.Value.Type" 0) (fun t _ _ _ => ReflectliteType.toType t)) Tryd.func51 (by kernel_rfl) (by kernel_rfl) (by kernel_rfl) (by kernel_rfl) fun base η w vs hM hr => by
    simp only [RepL, Rep] at hr
    obtain ⟨_, _, rfl, ⟨_, rfl, ⟨_, _, rfl, rfl, _, _, rfl, ⟨b, hb, rfl⟩, _, _, rfl, rfl, rfl⟩, _⟩, rfl⟩ := hr
    exact ⟨_, S, η, _, w, typePEr _ w, h, (rep_val_iff (d := rtD 78) rfl).2 rfl, Goes.refl hM⟩
theorem partsPEr (a : Addr) (w : World) : (ReflectliteValue.parts (.agg #[tyV 78, .pointer (some a), .int .u64 150])).run Tryd.prog w = .ok (some (78, a, 150)) w := by kernel_rfl
theorem rlIsNilPEr {b k off : Nat} (hb : S.ob b = some (.box 78 [.loc k off])) (h : K (.v (.bool false)) S) : DCalls Tryd.prog 52 [.agg [.v (tyV 78), .loc b 0, .v (.int .u64 150)]] S K :=
  dext (e := ReflectliteValue.method (ReflectliteValue.valueError "reflectlite.Value.IsNil" 0) ReflectliteValue.isNil) Tryd.func52 (by kernel_rfl) (by kernel_rfl) (by kernel_rfl) (by kernel_rfl) fun base η w vs hM hr => by
    simp only [RepL, Rep] at hr
    obtain ⟨_, _, rfl, ⟨_, rfl, ⟨_, _, rfl, rfl, _, _, rfl, ⟨q, hq, rfl⟩, _, _, rfl, rfl, rfl⟩, _⟩, rfl⟩ := hr
    obtain ⟨us, g1, g2, g3⟩ := hM.box b _ _ q hb hq
    simp only [RepL, Rep] at g2
    obtain ⟨_, _, rfl, ⟨p, hp, rfl⟩, rfl⟩ := g2
    have ha : w.cell? ⟨q, 0, none⟩ = some (.pointer (some ⟨p, off, none⟩)) := by simp [World.cell?, g1]
    refine ⟨_, S, η, .bool false, w, ?_, h, by simp only [Rep], Goes.refl hM⟩
    rw [rlm]
    simp only [Sem.run_bind, partsPEr, Result.andThen]
    simp [ReflectliteValue.isNil, loadVar, isAgg, underlying, Tryd.underlying78, ha, Result.andThen]
theorem elemOfPEr (w : World) : (Rtype.elem? 78).run Tryd.prog w = .ok (some 54) w := by kernel_rfl
theorem mkPEr (p : Addr) (w : World) : (ReflectliteValue.mk 54 p ReflectliteValue.flagAddr).run Tryd.prog w = .ok (.agg #[tyV 54, .pointer (some p), .int .u64 386]) w := by kernel_rfl
theorem rlElemPEr {b k off : Nat} (hb : S.ob b = some (.box 78 [.loc k off])) (h : K (.agg [.v (tyV 54), .loc k off, .v (.int .u64 386)]) S) : DCalls Tryd.prog 59 [.agg [.v (tyV 78), .loc b 0, .v (.int .u64 150)]] S K :=
  dext (e := ReflectliteValue.method (ReflectliteValue.valueError "reflectlite.Value.Elem" 0) ReflectliteValue.elem) Tryd.func59 (by kernel_rfl) (by kernel_rfl) (by kernel_rfl) (by kernel_rfl) fun base η w vs hM hr => by
    simp only [RepL, Rep] at hr
    obtain ⟨_, _, rfl, ⟨_, rfl, ⟨_, _, rfl, rfl, _, _, rfl, ⟨q, hq, rfl⟩, _, _, rfl, rfl, rfl⟩, _⟩, rfl⟩ := hr
    obtain ⟨us, g1, g2, g3⟩ := hM.box b _ _ q hb hq
    simp only [RepL, Rep] at g2
    obtain ⟨_, _, rfl, ⟨p, hp, rfl⟩, rfl⟩ := g2
    have ha : w.cell? ⟨q, 0, none⟩ = some (.pointer (some ⟨p, off, none⟩)) := by simp [World.cell?, g1]
    refine ⟨_, S, η, .agg #[tyV 54, .pointer (some ⟨p, off, none⟩), .int .u64 386], w, ?_, h, ?_, Goes.refl hM⟩
    · rw [rlm]
      simp only [Sem.run_bind, partsPEr, Result.andThen]
      simp [ReflectliteValue.elem, loadVar, isAgg, underlying, Tryd.underlying78, ha, Result.andThen, elemOfPEr, mkPEr]
    · simp only [Rep, RepL]
      exact ⟨[_, _, _], rfl, ⟨_, _, rfl, rfl, _, _, rfl, ⟨p, hp, rfl⟩, _, _, rfl, rfl, rfl⟩, fun x hx => by simp only [List.mem_cons, List.not_mem_nil, or_false] at hx; rcases hx with rfl | rfl | rfl <;> rfl⟩
theorem methKindPEr : DMeth Tryd.prog 111 (tyD 78) "Kind" 94 (.v (tyV 78)) := dmeth_pure rfl rfl fun w => by kernel_rfl
theorem methKindEr : DMeth Tryd.prog 111 (tyD 54) "Kind" 94 (.v (tyV 54)) := dmeth_pure rfl rfl fun w => by kernel_rfl
theorem rlKindPEr (h : K (.v (.int .u8 22)) S) : DCalls Tryd.prog 94 [.v (tyV 78)] S K :=
  dext_pure (e := ReflectliteType.abiMethod fun t => do pure (.int .u8 (← Rtype.kind t))) Tryd.func94 (by kernel_rfl) (by kernel_rfl) (by kernel_rfl) (by kernel_rfl) (r := .int .u8 22) rfl (fun w => by kernel_rfl) rfl h
theorem rlKindEr (h : K (.v (.int .u8 2)) S) : DCalls Tryd.prog 94 [.v (tyV 54)] S K :=
  dext_pure (e := ReflectliteType.abiMethod fun t => do pure (.int .u8 (← Rtype.kind t))) Tryd.func94 (by kernel_rfl) (by kernel_rfl) (by kernel_rfl) (by kernel_rfl) (r := .int .u8 2) rfl (fun w => by kernel_rfl) rfl h
theorem methElemPEr : DMeth Tryd.prog 111 (tyD 78) "Elem" 104 (tyD 78) := dmeth_pure rfl rfl fun w => by kernel_rfl
theorem rlTElemPEr (h : K (rtD 54) S) : DCalls Tryd.prog 104 [tyD 78] S K :=
  dext_pure (e := ReflectliteType.method ReflectliteType.elem) Tryd.func104 (by kernel_rfl) (by kernel_rfl) (by kernel_rfl) (by kernel_rfl) (r := .iface 111 (.agg #[tyV 54])) rfl (fun w => by kernel_rfl) rfl h
theorem methImplEr : DMeth Tryd.prog 111 (tyD 54) "Implements" 105 (tyD 54) := dmeth_pure rfl rfl fun w => by kernel_rfl
theorem rlImplEr (h : K (.v (.bool true)) S) : DCalls Tryd.prog 105 [tyD 54, rtD 27] S K :=
  dext_pure (e := ReflectliteType.relation "Implements" ReflectliteType.implements_) Tryd.func105 (by kernel_rfl) (by kernel_rfl) (by kernel_rfl) (by kernel_rfl) (r := .bool true) rfl (fun w => by kernel_rfl) rfl h
theorem methAsgEr : DMeth Tryd.prog 111 (tyD 54) "AssignableTo" 102 (tyD 54) := dmeth_pure rfl rfl fun w => by kernel_rfl
theorem rlAsgEr (h : K (.v (.bool true)) S) : DCalls Tryd.prog 102 [tyD 54, rtD 54] S K :=
  dext_pure (e := ReflectliteType.relation "AssignableTo" ReflectliteType.assignableTo) Tryd.func102 (by kernel_rfl) (by kernel_rfl) (by kernel_rfl) (by kernel_rfl) (r := .bool true) rfl (fun w => by kernel_rfl) rfl h
theorem typeOfEr (x : Value) (w : World) : (ReflectliteType.typeOf #[.iface 54 x]).run Tryd.prog w = .ok (.iface 111 (.agg #[tyV 54])) w := by kernel_rfl
theorem rlTypeOfEr {d : D} (h : K (rtD 54) S) : DCalls Tryd.prog 58 [.ifc 54 d] S K :=
  dext (e := ReflectliteType.typeOf) Tryd.func58 (by kernel_rfl) (by kernel_rfl) (by kernel_rfl) (by kernel_rfl) fun base η w vs hM hr => by
    simp only [RepL, Rep] at hr
    obtain ⟨_, _, rfl, ⟨x, rfl, _⟩, rfl⟩ := hr
    exact ⟨_, S, η, _, w, typeOfEr x w, h, (rep_val_iff (d := rtD 54) rfl).2 rfl, Goes.refl hM⟩
end

end Go.Proofs.YtonncfminojejaaDoor

namespace Go.Proofs.YtonncfminojejaaDoor
open Go.RowKit Go.Extern.Stop Go.Stop Go.Extern
abbrev erD (n : Int) : D := .ifc 54 (.v (.int .i64 n))
section
variable {P : Program} {S : St} {K : D → St → Prop}
end
section
variable {S : St} {K : D → St → Prop} {u : D}
end
theorem unpackEr (n : Int) (w : World) : (ReflectliteValue.unpack (.iface 54 (.int .i64 n))).run Tryd.prog w = .ok (.agg #[tyV 54, .pointer (some ⟨w.heap.size, 0, none⟩), .int .u64 130]) (w.alloc (.cells #[.int .i64 n] 54)) := by kernel_rfl
section
variable {S : St} {K : D → St → Prop}
theorem rlValueOfEr {n : Int} (h : K (.agg [.v (tyV 54), .loc S.next 0, .v (.int .u64 130)]) (S.add (.box 54 [.v (.int .i64 n)]))) : DCalls Tryd.prog 50 [erD n] S K :=
  dext (e := fun args => ReflectliteValue.unpack (args.getD 0 (.tuple #[]))) Tryd.func50 (by kernel_rfl) (by kernel_rfl) (by kernel_rfl) (by kernel_rfl) fun base η w vs hM hr => by
    simp only [RepL, Rep] at hr
    obtain ⟨_, _, rfl, ⟨_, rfl, rfl⟩, rfl⟩ := hr
    have G := goes_name hM (.box 54 [.v (.int .i64 n)]) #[.int .i64 n] 54 (.inl ⟨_, [.int .i64 n], rfl, rfl, by simp only [RepL, Rep]; exact ⟨_, _, rfl, rfl, rfl⟩, fun x hx => by rw [List.mem_singleton] at hx; subst hx; rfl⟩)
    refine ⟨_, _, _, _, _, unpackEr _ w, h, ?_, G⟩
    simp only [Rep, RepL]
    exact ⟨[_, _, _], rfl, ⟨_, _, rfl, rfl, _, _, rfl, ⟨w.heap.size, by simp only [Names.add, ↓reduceIte], rfl⟩, _, _, rfl, rfl, rfl⟩, fun x hx => by simp only [List.mem_cons, List.not_mem_nil, or_false] at hx; rcases hx with rfl | rfl | rfl <;> rfl⟩
end

theorem partsEra (a : Addr) (w : World) : (ReflectliteValue.parts (.agg #[tyV 54, .pointer (some a), .int .u64 386])).run Tryd.prog w = .ok (some (54, a, 386)) w := by kernel_rfl
theorem partsEr (a : Addr) (w : World) : (ReflectliteValue.parts (.agg #[tyV 54, .pointer (some a), .int .u64 130])).run Tryd.prog w = .ok (some (54, a, 130)) w := by kernel_rfl
theorem directEr (w : World) : (Rtype.directlyAssignable 54 54).run Tryd.prog w = .ok true w := by kernel_rfl
theorem sizeEr (w : World) : (sizeOf 54).run Tryd.prog w = .ok 1 w := by kernel_rfl
theorem setEr {b a : Nat} {x : Value} {n : Int} {W : World} (hb : W.heap[b]? = some (.cells [x].toArray 54 (0, 0))) (ha : W.cell? ⟨a, 0, none⟩ = some (.int .i64 n)) :
    (ReflectliteValue.set #[.agg #[tyV 54, .pointer (some ⟨b, 0, none⟩), .int .u64 386], .agg #[tyV 54, .pointer (some ⟨a, 0, none⟩), .int .u64 130]]).run Tryd.prog W = .ok (.tuple #[]) (W.setRow b [.int .i64 n].toArray) := by
  have q := run_storeCells_at Tryd.prog b 0 54 [.int .i64 n] 0 [x].toArray W hb (by simp) (by simp [Value.oneCell'])
  rw [rls]
  simp only [Sem.run_bind, partsEra, partsEr, Result.andThen]
  simp [ReflectliteValue.flagAddr, loadVar, isAgg, underlying, Tryd.underlying54, ha, Result.andThen, directEr, storeVar, sizeEr, Value.cells] at q ⊢
  simp [q]
theorem rlSetEr {S : St} {K : D → St → Prop} {a b : Nat} {d0 : D} {n : Int} (hb : S.ob b = some (.box 54 [d0])) (ha : S.ob a = some (.box 54 [.v (.int .i64 n)])) (h : K (.tup []) (S.set b (.box 54 [.v (.int .i64 n)]))) :
    DCalls Tryd.prog 60 [.agg [.v (tyV 54), .loc b 0, .v (.int .u64 386)], .agg [.v (tyV 54), .loc a 0, .v (.int .u64 130)]] S K :=
  dext (e := ReflectliteValue.set) Tryd.func60 (by kernel_rfl) (by kernel_rfl) (by kernel_rfl) (by kernel_rfl) fun base η w vs hM hr => by
    simp only [RepL, Rep] at hr
    obtain ⟨_, _, rfl, ⟨_, rfl, ⟨_, _, rfl, rfl, _, _, rfl, ⟨q, hq, rfl⟩, _, _, rfl, rfl, rfl⟩, _⟩, _, _, rfl, ⟨_, rfl, ⟨_, _, rfl, rfl, _, _, rfl, ⟨p, hp, rfl⟩, _, _, rfl, rfl, rfl⟩, _⟩, rfl⟩ := hr
    obtain ⟨us, g1, g2, g3⟩ := hM.box b _ _ q hb hq
    obtain ⟨us', k1, k2, k3⟩ := hM.box a _ _ p ha hp
    simp only [RepL] at g2
    obtain ⟨x, _, rfl, hx, rfl⟩ := g2
    simp only [RepL] at k2
    obtain ⟨y, _, rfl, hy, rfl⟩ := k2
    have hy0 := hy
    simp only [Rep] at hy
    subst hy
    have hc : w.cell? ⟨p, 0, none⟩ = some (.int .i64 n) := by simp [World.cell?, k1]
    have G := goes_set hM (cs' := [.v (.int .i64 n)]) (vs' := [_]) hb hq rfl (by simp only [RepL]; exact ⟨_, _, rfl, hy0, rfl⟩) k3
    exact ⟨_, _, _, _, _, setEr g1 hc, h, by simp only [Rep, RepL]; exact ⟨[], rfl, rfl⟩, G⟩

end Go.Proofs.YtonncfminojejaaDoor

namespace Go.Proofs.YtonncfminojejaaDoor
open Go.RowKit
theorem bnil_eq0 (k : Nat) : dbin Tryd.prog .eql 27 (.tmp k) (.const .nilIface) (.v .nilIface) (.v .nilIface) = some (True, .v (.bool true)) := by kernel_rfl
set_option maxRecDepth 200000 in
set_option maxHeartbeats 4000000 in
theorem as0Walk {S : St} {n : Int} {x0 : D} {kb kc : Nat} {K : D → St → Prop} (hk : S.ob kc = some (.box 54 [x0])) (hb : S.ob kb = some (.box 78 [.loc kc 0]))
    (h : ∀ T, S.next ≤ T.next → T.WF → (∀ j o, j ≠ kc → S.ob j = some o → T.ob j = some o) → T.ob kc = some (.box 54 [.v (.int .i64 n)]) → K (.v (.bool true)) T) :
    DCalls Tryd.prog 53 [erD n, .ifc 78 (.loc kc 0), .agg [.v (tyV 78), .loc kb 0, .v (.int .u64 150)], rtD 54] S K := by
  refine dcalls_inline mixed Tryd.func53 rfl (fun _ _ => by kernel_rfl) (rs := [.tmp 8]) rfl (by kernel_rfl) (fun hS => ?_)
  (simp (disch := first | decide | omega | (simp only [nx]; first | done | omega)) only [go_sem]; (repeat with_reducible refine aI ?_))
  (refine dloop_st (fun t => List.contains [0, 8, 9, 10, 11, 12, 14, 15, 16, 17, 18, 19, 20, 21, 22, 23, 24, 25, 26, 27, 28, 29, 30, 31, 32, 33, 34, 35, 36, 37, 38, 39, 40, 41, 42, 43, 44, 45, 46, 47, 48, 49, 50, 51, 52, 53, 54, 55, 56, 57, 58, 59, 60, 61] t) (by kernel_rfl) ?_ (0) (fun i f => i ≤ 0 ∧ f 0 = erD n ∧ f 8 = .v (.bool false)) ?_ ?_; (exact (by (repeat' first | assumption | refine St.WF.leave ?_ _ | refine St.WF.add ?_ _ | refine St.WF.set ?_ ?_ _ | refine St.WF.grow ?_ _ _ _ | refine St.WF.keep ?_ ?_ | (first | omega | (simp only [RowOk.lo, nx]; first | done | omega))))); (exact ⟨(by omega), (by (first | (simp (disch := first | decide | omega | (simp only [nx]; first | done | omega)) only [go_sem]; first | done | rfl) | rfl)), (by (first | (simp (disch := first | decide | omega | (simp only [nx]; first | done | omega)) only [go_sem]; first | done | rfl) | rfl))⟩); intro i g tn hn hT hg hI; obtain ⟨le, q0, q8⟩ := hI; have q1 := hg 1 rfl; have q3 := hg 3 rfl; have q6 := hg 6 rfl; simp (disch := first | decide | omega | (simp only [nx]; first | done | omega)) only [go_sem] at q1 q3 q6; clear hg; have hn' := hn; try simp only [add_next, set_next, grow_next, leave_next, drop_next] at hn')
  have hB : ∀ j o, S.ob j = some o → (St.mk tn (S.add (.box 95 [.v (tyV 78), .loc kb 0, .v (.int .u64 150)])).ob).ob j = some o := fun j o ho => by
    have hkl := hS.lt ho
    show (if j = S.next then _ else S.ob j) = _
    rw [if_neg (by omega), ho]
  (simp (disch := first | decide | omega | (simp only [nx]; first | done | omega)) only [go_sem, q0, q1, q3, q6]; (repeat with_reducible refine aI ?_))
  refine rlTypeOfEr ?_
  (simp (disch := first | decide | omega | (simp only [nx]; first | done | omega)) only [go_sem, q0, q1, q3, q6]; (repeat with_reducible refine aI ?_))
  refine dinvoke_mk methAsgEr (rlAsgEr ?_)
  (simp (disch := first | decide | omega | (simp only [nx]; first | done | omega)) only [go_sem, q0, q1, q3, q6]; (repeat with_reducible refine aI ?_))
  refine rlElemPEr (hB _ _ hb) ?_
  (simp (disch := first | decide | omega | (simp only [nx]; first | done | omega)) only [go_sem, q0, q1, q3, q6]; (repeat with_reducible refine aI ?_))
  refine rlValueOfEr ?_
  (simp (disch := first | decide | omega | (simp only [nx]; first | done | omega)) only [go_sem, q0, q1, q3, q6]; (repeat with_reducible refine aI ?_))
  have hkc := hS.lt hk
  have hkn : kc ≠ tn := by omega
  refine rlSetEr (d0 := x0) (n := n) ?_ ?_ ?_
  · show (if kc = tn then _ else _) = _
    rw [if_neg hkn]; exact hB _ _ hk
  · show (if tn = tn then _ else _) = _
    rw [if_pos rfl]
  (simp (disch := first | decide | omega | (simp only [nx]; first | done | omega)) only [go_sem, q0, q1, q3, q6]; (repeat with_reducible refine aI ?_))
  refine h _ ?_ ?_ (fun j o hj ho => ?_) ?_
  · show S.next ≤ tn + 1
    omega
  · exact (by (repeat' first | assumption | refine St.WF.leave ?_ _ | refine St.WF.add ?_ _ | refine St.WF.set ?_ ?_ _ | refine St.WF.grow ?_ _ _ _ | refine St.WF.keep ?_ ?_ | (first | omega | (simp only [RowOk.lo, nx]; first | done | omega))))
  · show (if j = kc then _ else if j = tn then _ else _) = _
    have := hS.lt ho
    rw [if_neg hj, if_neg (by omega)]; exact hB _ _ ho
  · show (if kc = kc then _ else _) = _
    rw [if_pos rfl]
set_option maxRecDepth 200000 in
set_option maxHeartbeats 4000000 in
theorem as0 {S : St} {n : Int} {x0 : D} {kc : Nat} {K : D → St → Prop} (hk : S.ob kc = some (.box 54 [x0]))
    (h : ∀ T, S.next ≤ T.next → T.WF → (∀ j o, j ≠ kc → S.ob j = some o → T.ob j = some o) → T.ob kc = some (.box 54 [.v (.int .i64 n)]) → K (.v (.bool true)) T) :
    DCalls Tryd.prog 37 [erD n, .ifc 78 (.loc kc 0)] S K := by
  refine dcalls_inline mixed Tryd.func37 rfl (fun _ _ => by kernel_rfl) (rs := [.tmp 4]) rfl (by kernel_rfl) (fun hS => ?_)
  unfold erD
  (simp (disch := first | decide | omega | (simp only [nx]; first | done | omega)) only [go_sem]; (repeat with_reducible refine aI ?_))
  refine rlValueOfPEr ?_
  (simp (disch := first | decide | omega | (simp only [nx]; first | done | omega)) only [go_sem]; (repeat with_reducible refine aI ?_))
  refine rlTypePEr ?_
  (simp (disch := first | decide | omega | (simp only [nx]; first | done | omega)) only [go_sem]; (repeat with_reducible refine aI ?_))
  have k22 : ((22 : Int) != 22) = false := by decide
  have k20 : ((2 : Int) != 20) = true := by decide
  refine dinvoke_mk methKindPEr (rlKindPEr ?_)
  (simp (disch := first | decide | omega | (simp only [nx]; first | done | omega)) only [go_sem, k22]; (repeat with_reducible refine aI ?_))
  refine rlIsNilPEr (k := kc) (off := 0) ?_ ?_
  · (first | (simp (disch := first | decide | omega | (simp only [nx]; first | done | omega)) only [go_sem]; first | done | rfl) | rfl)
  (simp (disch := first | decide | omega | (simp only [nx]; first | done | omega)) only [go_sem, k22]; (repeat with_reducible refine aI ?_))
  refine dinvoke_mk methElemPEr (rlTElemPEr ?_)
  (simp (disch := first | decide | omega | (simp only [nx]; first | done | omega)) only [go_sem]; (repeat with_reducible refine aI ?_))
  refine dinvoke_mk methKindEr (rlKindEr ?_)
  (simp (disch := first | decide | omega | (simp only [nx]; first | done | omega)) only [go_sem, k20]; (repeat with_reducible refine aI ?_))
  refine dinvoke_mk methImplEr (rlImplEr ?_)
  (simp (disch := first | decide | omega | (simp only [nx]; first | done | omega)) only [go_sem]; (repeat with_reducible refine aI ?_))
  have hkc := hS.lt hk
  have hB : ∀ j o, S.ob j = some o → (((S.add (.box 78 [.loc kc 0])).add (.box 95 [.v (.pointer none), .v (.pointer none), .v (.int .u64 0)])).set (S.next + 1) (.box 95 [.v (tyV 78), .loc S.next 0, .v (.int .u64 150)])).ob j = some o := fun j o ho => by
    have hkl := hS.lt ho
    show (if j = S.next + 1 then _ else if j = S.next + 1 then _ else if j = S.next then _ else S.ob j) = _
    rw [if_neg (by omega), if_neg (by omega), if_neg (by omega), ho]
  refine as0Walk (hB _ _ hk) (kb := S.next) ?_ fun T t1 t2 t3 t4 => ?_
  · (first | (simp (disch := first | decide | omega | (simp only [nx]; first | done | omega)) only [go_sem]; first | done | rfl) | rfl)
  (simp (disch := first | decide | omega | (simp only [nx]; first | done | omega)) only [go_sem]; (repeat with_reducible refine aI ?_))
  exact h T (by have : S.next + 1 + 1 ≤ T.next := t1; omega) t2 (fun j o hj ho => t3 j o hj (hB _ _ ho)) t4
theorem code0_nil : DPure Tryd.prog 19 [.v .nilIface] (.v (.int .i64 0)) := by
  refine dpure_of_dwp mixed Tryd.func19 rfl (fun _ _ => by kernel_rfl) (rs := [.tmp 2]) rfl (by kernel_rfl) trivial (fun S hS => ?_)
  (simp (disch := first | decide | omega | (simp only [nx]; first | done | omega)) only [go_sem, bnil_eq0]; (repeat with_reducible refine aI ?_))
  refine ⟨?_, (by (repeat' first | assumption | exact St.Sub.refl _ | exact RowOk.sub (by assumption) (by assumption) | refine St.Sub.trans ?_ (RowOk.sub (by assumption) (by assumption)) | refine St.Sub.add ?_ ?_ _ | refine St.Sub.set ?_ ?_ ?_ _ | refine St.Sub.keep ?_ ?_ | refine St.WF.leave ?_ _ | refine St.WF.add ?_ _ | refine St.WF.set ?_ ?_ _ | refine St.WF.grow ?_ _ _ _ | refine St.WF.keep ?_ ?_ | (first | omega | (simp only [RowOk.lo, nx]; first | done | omega))))⟩
  rfl
theorem code0_er (n : Int) : DPure Tryd.prog 19 [erD n] (.v (.int .i64 n)) := by
  refine dpure_of_dwp mixed Tryd.func19 rfl (fun _ _ => by kernel_rfl) (rs := [.tmp 2]) rfl (by kernel_rfl) trivial (fun S hS => ?_)
  unfold erD
  (simp (disch := first | decide | omega | (simp only [nx]; first | done | omega)) only [go_sem]; (repeat with_reducible refine aI ?_))
  refine as0 (x0 := .v (.int .i64 0)) ?_ fun T t1 t2 t3 t4 => ?_
  · show (if S.next = S.next then _ else _) = _
    rw [if_pos rfl]
  (simp (disch := first | decide | omega | (simp only [nx]; first | done | omega)) only [go_sem, t4]; (repeat with_reducible refine aI ?_))
  have hsub : S.Sub T := ⟨by have : S.next + 1 ≤ T.next := t1; omega, fun j o ho => t3 j o (by have := hS.lt ho; omega) (by have := hS.lt ho; show (if j = S.next then _ else _) = _; rw [if_neg (by omega), ho])⟩
  refine ⟨?_, (by (repeat' first | assumption | exact St.Sub.refl _ | exact RowOk.sub (by assumption) (by assumption) | refine St.Sub.trans ?_ (RowOk.sub (by assumption) (by assumption)) | refine St.Sub.add ?_ ?_ _ | refine St.Sub.set ?_ ?_ ?_ _ | refine St.Sub.keep ?_ ?_ | refine St.WF.leave ?_ _ | refine St.WF.add ?_ _ | refine St.WF.set ?_ ?_ _ | refine St.WF.grow ?_ _ _ _ | refine St.WF.keep ?_ ?_ | (first | omega | (simp only [RowOk.lo, nx]; first | done | omega))))⟩
  rfl
end Go.Proofs.YtonncfminojejaaDoor
