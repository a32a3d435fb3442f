/- Texts of a proof, part 6. Conditions: none. -/
import Derived.Test.YtonncfminojejaaGreatDoorE5
import Derived.RangeFuncLeaves
import Derived.RangeFuncRecord
import Derived.RangeFuncSeq
import Derived.OrdersIn
import Derived.TacticsIn
import Derived.Test.YtonncfminojejaaGreatDoorProg
import Derived.Shelf.Abstract
import Derived.WalkKit
import Derived.OwnWalkIn
import Derived.TacticsInMore
import Derived.LoopNIn
import Derived.LoopIn
import Derived.BigRegionIn
set_option linter.unusedVariables false
set_option linter.unusedSimpArgs false
namespace Go.Proofs.YtonncfminojejaaGreatDoor
open Go.RowKit
abbrev F64 := {l : List UInt8 // l.length = 64}
def encF6 (h : F64) : D := .agg (h.1.map bD)
theorem cells_encF6 (h : F64) : (encF6 h).cells = h.1.map bD := rfl
theorem len_encF (h : F64) : (h.1.map bD).length = 64 := by simp [h.2]
theorem width_encF (h : F64) : (encF6 h).width = 64 := len_encF h
theorem okCell_encF (h : F64) : (encF6 h).okCell = true := rfl
theorem take_filter (h : F64) : (h.1.map bD).take 64 = h.1.map bD := List.take_of_length_le (by rw [len_encF]; omega)
theorem agg_filter (h : F64) : D.agg (h.1.map bD) = encF6 h := rfl
theorem valsEq_filter (a b : F64) : valsEq (a.1.map bV) (b.1.map bV) = decide (a = b) := by
  rw [valsEq_bytes]; congr 1; rw [Subtype.ext_iff]
theorem equalIn_filter (d : Nat) (a b : F64) (w : World) : (Op.equalIn (d + 2) 24 (.agg (a.1.map bV).toArray) (.agg (b.1.map bV).toArray)).run Tryz.prog w = .ok (decide (a = b)) w := by
  rw [bV_cell, run_equalIn_bytes (P := Tryz.prog) w d 24 5 64 Tryz.underlying24 Tryz.underlying5 (fun w => by kernel_rfl) a.1 b.1 a.2 b.2]
  congr 1
  rw [Bool.eq_iff_iff]
  simp [Subtype.ext_iff]
theorem eqOk_filter {x y : Operand} (a b : F64) : EqOk Tryz.prog .eql 24 x y (a.1.map bV) (b.1.map bV) (decide (a = b)) ∧ EqOk Tryz.prog .neq 24 x y (a.1.map bV) (b.1.map bV) (!decide (a = b)) := by
  constructor <;> intro w
  · rw [Sem.run_bind, run_eqGuard_agg w _ _ _ _ _ _ (by kernel_rfl), Result.andThen_ok, run_eql_struct, equalIn_filter 9998 a b w, Result.andThen_ok]
  · rw [Sem.run_bind, run_eqGuard_agg w _ _ _ _ _ _ (by kernel_rfl), Result.andThen_ok, run_neq_struct, equalIn_filter 9998 a b w, Result.andThen_ok]
section
variable {x y : Operand} {K : D → Prop} {K' : D → St → Prop} {S : St}
theorem bin_eqF (a b : F64) : dbin Tryz.prog .eql 24 x y (encF6 a) (encF6 b) = some (EqOk Tryz.prog .eql 24 x y (a.1.map bV) (b.1.map bV) (decide (a = b)), .v (.bool (decide (a = b)))) := by
  simp only [dbin, encF6, vals_bytes, dbinA, valsEq_filter]
theorem bin_neF (a b : F64) : dbin Tryz.prog .neq 24 x y (encF6 a) (encF6 b) = some (EqOk Tryz.prog .neq 24 x y (a.1.map bV) (b.1.map bV) (!decide (a = b)), .v (.bool (!decide (a = b)))) := by
  simp only [dbin, encF6, vals_bytes, dbinA, valsEq_filter]
theorem onVal_eqF (a b : F64) : onVal (dbin Tryz.prog .eql 24 x y (encF6 a) (encF6 b)) K = K (.v (.bool (decide (a = b)))) := by
  rw [bin_eqF, onVal_some]; exact propext ⟨fun h => h.2, fun h => ⟨(eqOk_filter a b).1, h⟩⟩
theorem onVal_neF (a b : F64) : onVal (dbin Tryz.prog .neq 24 x y (encF6 a) (encF6 b)) K = K (.v (.bool (!decide (a = b)))) := by
  rw [bin_neF, onVal_some]; exact propext ⟨fun h => h.2, fun h => ⟨(eqOk_filter a b).2, h⟩⟩
theorem onValS_eqF (a b : F64) : onValS (dbin Tryz.prog .eql 24 x y (encF6 a) (encF6 b)) K' S = K' (.v (.bool (decide (a = b)))) S := by
  rw [bin_eqF, onValS_some]; exact propext ⟨fun h => h.2, fun h => ⟨(eqOk_filter a b).1, h⟩⟩
theorem onValS_neF (a b : F64) : onValS (dbin Tryz.prog .neq 24 x y (encF6 a) (encF6 b)) K' S = K' (.v (.bool (!decide (a = b)))) S := by
  rw [bin_neF, onValS_some]; exact propext ⟨fun h => h.2, fun h => ⟨(eqOk_filter a b).2, h⟩⟩
end
attribute [go_sem] onVal_eqF onVal_neF onValS_eqF onValS_neF cells_encF6 take_filter agg_filter len_encF width_encF okCell_encF
structure DMs where
  k : Int
  r : Bool
  f : F64
  ids : List H32
  es : List (List UInt8)
deriving DecidableEq
def msT (m : DMs) : List D := [.sl .no (m.ids.map encH), .sl .no (m.es.map encB)]
def msCs (m : DMs) : List D := .v (.int .i64 m.k) :: .v (.bool m.r) :: (m.f.1.map bD ++ msT m)
def encMs (m : DMs) : D := .agg (msCs m)
theorem cells_encMs (m : DMs) : (encMs m).cells = msCs m := rfl
theorem len_msCs (m : DMs) : (msCs m).length = 68 := by simp [msCs, msT, m.f.2]
theorem width_encMs (m : DMs) : (encMs m).width = 68 := len_msCs m
theorem okCell_encMs (m : DMs) : (encMs m).okCell = true := rfl
theorem take_msCs (m : DMs) : (msCs m).take 68 = msCs m := List.take_of_length_le (by rw [len_msCs]; omega)
theorem agg_msCs (m : DMs) : D.agg (msCs m) = encMs m := rfl
theorem k_msCs (m : DMs) : (msCs m).getD 0 undefD = .v (.int .i64 m.k) := rfl
theorem r_msCs (m : DMs) : (msCs m).getD 1 undefD = .v (.bool m.r) := rfl
theorem f_msCs (m : DMs) : ((msCs m).drop 2).take 64 = m.f.1.map bD := by
  show ((m.f.1.map bD ++ msT m).take 64) = _
  rw [List.take_append_of_le_length (by rw [len_encF]; omega), take_filter]
theorem tail_msCs (m : DMs) (j : Nat) : (msCs m).getD (66 + j) undefD = (msT m).getD j undefD := by
  rw [msCs, show 66 + j = (64 + j + 1) + 1 by omega, List.getD_cons_succ, List.getD_cons_succ, List.getD_eq_getElem?_getD, List.getElem?_append_right (by rw [len_encF]; omega), len_encF, show 64 + j - 64 = j by omega, List.getD_eq_getElem?_getD]
theorem ids_msCs (m : DMs) : (msCs m).getD 66 undefD = .sl .no (m.ids.map encH) := tail_msCs m 0
theorem es_msCs (m : DMs) : (msCs m).getD 67 undefD = .sl .no (m.es.map encB) := tail_msCs m 1
attribute [go_sem] cells_encMs len_msCs width_encMs okCell_encMs take_msCs agg_msCs k_msCs r_msCs f_msCs ids_msCs es_msCs
def sumE : List (List UInt8) → Nat
  | [] => 0
  | b :: l => b.length + sumE l
section
set_option maxRecDepth 200000
set_option maxHeartbeats 8000000
theorem same25_d (a b : DMs) (ha : a.ids.length ≤ 1000000) (ha2 : a.es.length ≤ 1000000) : DPure Tryz.prog 9 [encMs a, encMs b] (.v (.bool (decide (a = b)))) := by
  refine dpure_of_dwp mixed Tryz.func9 rfl (fun _ _ => by kernel_rfl) (rs := [.tmp 4]) rfl (by kernel_rfl) trivial (fun S hS => ?_)
  have fin : ∀ {v : Bool}, v = decide (a = b) → (D.v (.bool v)).frz = D.v (.bool (decide (a = b))) := fun h => by rw [h]; rfl
  have ff : ∀ {c : Prop} [Decidable c], (a = b → c) → ¬ c → false = decide (a = b) := fun h1 h2 => (decide_eq_false fun e => h2 (h1 e)).symm
  by_cases hk : a.k = b.k
  · have b0 : (a.k == b.k) = true := by simp [hk]
    by_cases hr : a.r = b.r
    · have b1 : (a.r == b.r) = true := by simp [hr]
      by_cases hf : a.f = b.f
      · have b2 : decide (a.f = b.f) = true := decide_eq_true hf
        (simp (disch := first | decide | omega | (simp only [nx]; first | done | omega)) only [go_sem, b0, b1, b2, bin_beqW]; (repeat with_reducible refine aI ?_))
        refine DCalls.of_pure (hashes_d .no .no a.ids b.ids ha) ?_
        by_cases hi : a.ids = b.ids
        · have b3 : decide (a.ids = b.ids) = true := decide_eq_true hi
          (simp (disch := first | decide | omega | (simp only [nx]; first | done | omega)) only [go_sem, b3]; (repeat with_reducible refine aI ?_))
          refine DCalls.of_pure (same23_d .no .no a.es b.es ha2) ?_
          (simp (disch := first | decide | omega | (simp only [nx]; first | done | omega)) only [go_sem]; (repeat with_reducible refine aI ?_))
          refine ⟨?_, (by (repeat' first | assumption | exact St.Sub.refl _ | exact RowOk.sub (by assumption) (by assumption) | refine St.Sub.trans ?_ (RowOk.sub (by assumption) (by assumption)) | refine St.Sub.add ?_ ?_ _ | refine St.Sub.set ?_ ?_ ?_ _ | refine St.Sub.keep ?_ ?_ | refine St.WF.leave ?_ _ | refine St.WF.add ?_ _ | refine St.WF.set ?_ ?_ _ | refine St.WF.grow ?_ _ _ _ | refine St.WF.keep ?_ ?_ | (first | omega | (simp only [RowOk.lo, nx]; first | done | omega))))⟩
          refine fin (decide_eq_decide.2 ⟨fun he => ?_, fun e => by rw [e]⟩)
          obtain ⟨k1, r1, f1, i1, e1⟩ := a
          obtain ⟨k2, r2, f2, i2, e2⟩ := b
          simp only at hk hr hf hi he
          rw [hk, hr, hf, hi, he]
        · have b3 : decide (a.ids = b.ids) = false := decide_eq_false hi
          (simp (disch := first | decide | omega | (simp only [nx]; first | done | omega)) only [go_sem, b3]; (repeat with_reducible refine aI ?_))
          refine ⟨?_, (by (repeat' first | assumption | exact St.Sub.refl _ | exact RowOk.sub (by assumption) (by assumption) | refine St.Sub.trans ?_ (RowOk.sub (by assumption) (by assumption)) | refine St.Sub.add ?_ ?_ _ | refine St.Sub.set ?_ ?_ ?_ _ | refine St.Sub.keep ?_ ?_ | refine St.WF.leave ?_ _ | refine St.WF.add ?_ _ | refine St.WF.set ?_ ?_ _ | refine St.WF.grow ?_ _ _ _ | refine St.WF.keep ?_ ?_ | (first | omega | (simp only [RowOk.lo, nx]; first | done | omega))))⟩
          exact fin (ff (fun e => by rw [e]) hi)
      · have b2 : decide (a.f = b.f) = false := decide_eq_false hf
        (simp (disch := first | decide | omega | (simp only [nx]; first | done | omega)) only [go_sem, b0, b1, b2, bin_beqW]; (repeat with_reducible refine aI ?_))
        refine ⟨?_, (by (repeat' first | assumption | exact St.Sub.refl _ | exact RowOk.sub (by assumption) (by assumption) | refine St.Sub.trans ?_ (RowOk.sub (by assumption) (by assumption)) | refine St.Sub.add ?_ ?_ _ | refine St.Sub.set ?_ ?_ ?_ _ | refine St.Sub.keep ?_ ?_ | refine St.WF.leave ?_ _ | refine St.WF.add ?_ _ | refine St.WF.set ?_ ?_ _ | refine St.WF.grow ?_ _ _ _ | refine St.WF.keep ?_ ?_ | (first | omega | (simp only [RowOk.lo, nx]; first | done | omega))))⟩
        exact fin (ff (fun e => by rw [e]) hf)
    · have b1 : (a.r == b.r) = false := by simp [hr]
      (simp (disch := first | decide | omega | (simp only [nx]; first | done | omega)) only [go_sem, b0, b1, bin_beqW]; (repeat with_reducible refine aI ?_))
      refine ⟨?_, (by (repeat' first | assumption | exact St.Sub.refl _ | exact RowOk.sub (by assumption) (by assumption) | refine St.Sub.trans ?_ (RowOk.sub (by assumption) (by assumption)) | refine St.Sub.add ?_ ?_ _ | refine St.Sub.set ?_ ?_ ?_ _ | refine St.Sub.keep ?_ ?_ | refine St.WF.leave ?_ _ | refine St.WF.add ?_ _ | refine St.WF.set ?_ ?_ _ | refine St.WF.grow ?_ _ _ _ | refine St.WF.keep ?_ ?_ | (first | omega | (simp only [RowOk.lo, nx]; first | done | omega))))⟩
      exact fin (ff (fun e => by rw [e]) hr)
  · have b0 : (a.k == b.k) = false := by simp [hk]
    (simp (disch := first | decide | omega | (simp only [nx]; first | done | omega)) only [go_sem, b0]; (repeat with_reducible refine aI ?_))
    refine ⟨?_, (by (repeat' first | assumption | exact St.Sub.refl _ | exact RowOk.sub (by assumption) (by assumption) | refine St.Sub.trans ?_ (RowOk.sub (by assumption) (by assumption)) | refine St.Sub.add ?_ ?_ _ | refine St.Sub.set ?_ ?_ ?_ _ | refine St.Sub.keep ?_ ?_ | refine St.WF.leave ?_ _ | refine St.WF.add ?_ _ | refine St.WF.set ?_ ?_ _ | refine St.WF.grow ?_ _ _ _ | refine St.WF.keep ?_ ?_ | (first | omega | (simp only [RowOk.lo, nx]; first | done | omega))))⟩
    exact fin (ff (fun e => by rw [e]) hk)
end
end Go.Proofs.YtonncfminojejaaGreatDoor

namespace Go.Proofs.YtonncfminojejaaGreatDoor
open Go.ChangeShapes Go.WideShapes Go.ChangeAt Go.RowKit Go.Deep Go.Joins
section
set_option maxRecDepth 20000
variable {H : Type} {enc : TypeId × Value → H} {w : World}
theorem trod_struct5m {P : Program} {t : TypeId} {f0 f1 f2 f3 f4 : Field} {fuel : Nat} {cs : List Value} {x : DataW H × List MemPlace} (ht : P.underlying t = some (.struct #[f0, f1, f2, f3, f4])) (h : DataW.trod enc P w 0 (fun _ => true) true fuel t cs = some x) :
    ∃ y0 y1 y2 y3 y4 n, x.1 = .agg [y0.1, y1.1, y2.1, y3.1, y4.1] ∧ cs.length = P.cellsOf t ∧ DataW.trod enc P w 0 (fun _ => true) true n f0.type ((cs.drop f0.offset).take (P.cellsOf f0.type)) = some y0 ∧
      DataW.trod enc P w 0 (fun _ => true) true n f1.type ((cs.drop f1.offset).take (P.cellsOf f1.type)) = some y1 ∧ DataW.trod enc P w 0 (fun _ => true) true n f2.type ((cs.drop f2.offset).take (P.cellsOf f2.type)) = some y2 ∧
      DataW.trod enc P w 0 (fun _ => true) true n f3.type ((cs.drop f3.offset).take (P.cellsOf f3.type)) = some y3 ∧ DataW.trod enc P w 0 (fun _ => true) true n f4.type ((cs.drop f4.offset).take (P.cellsOf f4.type)) = some y4 := by
  obtain ⟨xs, n, _, rfl, hl, hlen, hf⟩ := DataW.trod_struct ht h
  match xs, hlen with
  | [y0, y1, y2, y3, y4], _ => exact ⟨y0, y1, y2, y3, y4, n, by simp, hl, by simpa using hf 0 f0 rfl, by simpa using hf 1 f1 rfl, by simpa using hf 2 f2 rfl, by simpa using hf 3 f3 rfl, by simpa using hf 4 f4 rfl⟩
theorem names_cell2 {fuel : Nat} {cs : List Value} {x : DataW H × List MemPlace} (h : DataW.trod enc Tryz.prog w 0 (fun _ => true) true fuel 25 cs = some x) (hs : Sized Tryz.prog 25 x.1) :
    ∃ l : List H32, ∃ u, cs = [u] ∧ ∀ (η : Names) (X : Nat → Nat → Prop), (∀ b i, X b i) → Rep Tryz.prog w η X (.sl .no (l.map encH)) u := by
  obtain ⟨l, _, _, u, e, h3⟩ := open_structs_trod (P := Tryz.prog) encH (size := 32) (bytes := 32) Tryz.underlying25 (by kernel_rfl) (by omega) (by kernel_rfl) (by omega) (fun m cs => cs = m.1.map bV) (fun fuel cs x hx hsx _ => hash_of hx) width_encH (fun _ => rfl) (fun s cs hq η X hX => by subst hq; exact rep_hash s η X) h hs
  exact ⟨l, u, e, h3⟩
theorem sl_one2 {P : Program} {η : Names} {X : Nat → Nat → Prop} {l : List D} {u : Value} (h : Rep P w η X (.sl .no l) u) : u.oneCell' = true := by
  simp only [Rep] at h
  obtain ⟨A, c, rfl, _⟩ := h
  rfl
theorem filter_of {fuel : Nat} {cs : List Value} {x : DataW H × List MemPlace} (h : DataW.trod enc Tryz.prog w 0 (fun _ => true) true fuel 24 cs = some x) : ∃ m : F64, cs = m.1.map bV := by
  obtain ⟨l, h1, h2⟩ := open_u8array Tryz.underlying24 Tryz.underlying5 (by kernel_rfl) (by kernel_rfl) h
  exact ⟨⟨l, h1⟩, h2⟩
def IsMs (w : World) (m : DMs) (cs : List Value) : Prop := (m.es.length ≤ 140737488351232 ∧ ∀ b ∈ m.es, b.length ≤ 140737488351232) ∧ ∀ (η : Names) (X : Nat → Nat → Prop), (∀ b i, X b i) → Rep Tryz.prog w η X (encMs m) (.agg cs.toArray)
theorem open_ms_trod {fuel : Nat} {cs : List Value} {x : DataW H × List MemPlace} (h : DataW.trod enc Tryz.prog w 0 (fun _ => true) true fuel 28 cs = some x) (hs : Sized Tryz.prog 28 x.1) : ∃ m, IsMs w m cs := by
  obtain ⟨y0, y1, y2, y3, y4, n, hx, hl, g0, g1, g2, g3, g4⟩ := trod_struct5m Tryz.underlying28 h
  have k0 : Tryz.prog.cellsOf 3 = 1 := by kernel_rfl
  have k1 : Tryz.prog.cellsOf 4 = 1 := by kernel_rfl
  have k2 : Tryz.prog.cellsOf 24 = 64 := by kernel_rfl
  have k3 : Tryz.prog.cellsOf 25 = 1 := by kernel_rfl
  have k4 : Tryz.prog.cellsOf 26 = 1 := by kernel_rfl
  have k5 : Tryz.prog.cellsOf 28 = 68 := by kernel_rfl
  rw [k5] at hl
  rw [hx] at hs
  simp only [k0, k1, k2, k3, k4] at g0 g1 g2 g3 g4
  match cs, hl with
  | c0 :: c1 :: cs, hl =>
    have hl : cs.length = 66 := by simpa using hl
    simp only [List.drop_zero, List.take_succ_cons, List.take_zero, List.drop_succ_cons] at g0 g1 g2 g3 g4
    obtain ⟨k, e0, _, _⟩ := DataW.trod_int Tryz.underlying3 g0
    obtain ⟨r, e1, _⟩ := DataW.trod_bool Tryz.underlying4 g1
    injection e0 with e0 _
    injection e1 with e1 _
    subst e0 e1
    obtain ⟨f, hf⟩ := filter_of g2
    obtain ⟨ids, ui, ei, hi⟩ := names_cell2 g3 (sized_each Tryz.underlying28 hs (j := 3) rfl rfl)
    obtain ⟨es, q1, q2, ue, ee, he⟩ := ess_cell g4 (sized_each Tryz.underlying28 hs (j := 4) rfl rfl)
    have e : cs = f.1.map bV ++ [ui, ue] := by
      rw [← List.take_append_drop 64 cs, hf]
      congr 1
      have h1 : (cs.drop 64).take 1 ++ (cs.drop 65).take 1 = [ui, ue] := by rw [ei, ee]; rfl
      rw [← h1]
      have h2 : cs.drop 65 = (cs.drop 64).drop 1 := by rw [List.drop_drop]
      rw [h2]
      have h3 : (cs.drop 64).length = 2 := by rw [List.length_drop]; omega
      match cs.drop 64, h3 with
      | [a, b], _ => rfl
    refine ⟨⟨k, r, f, ids, es⟩, ⟨q2, q1⟩, fun η X hX => ?_⟩
    simp only [encMs, Rep]
    refine ⟨.int .i64 k :: .bool r :: cs, rfl, ?_, fun u hu => ?_⟩
    · simp only [msCs, RepL]
      refine ⟨_, _, rfl, by simp only [Rep], _, _, rfl, by simp only [Rep], ?_⟩
      rw [e]
      refine RepL.append ?_ ?_
      · have := repL_plain (P := Tryz.prog) (w := w) (η := η) (X := X) (f.1.map bV)
        rwa [List.map_map] at this
      · simp only [msT, RepL]
        exact ⟨_, _, rfl, hi η X hX, _, _, rfl, he η X hX, rfl⟩
    · rcases List.mem_cons.1 hu with rfl | hu
      · rfl
      · rcases List.mem_cons.1 hu with rfl | hu
        · rfl
        · rw [e] at hu
          rcases List.mem_append.1 hu with hu | hu
          · obtain ⟨b, _, rfl⟩ := List.mem_map.1 hu; rfl
          · simp only [List.mem_cons, List.not_mem_nil, or_false] at hu
            rcases hu with rfl | rfl
            · exact sl_one2 (hi η X hX)
            · exact sl_one2 (he η X hX)
theorem open_ms {v : Value} {d : DataW H} {p : List MemPlace} {W : World} {base : Nat} (h : DataW.Trod enc Tryz.prog w 0 (fun _ => true) true 28 v d p) (hs : Sized Tryz.prog 28 d) (hk : Value.okWide Tryz.prog W .any base 28 v) :
    ∃ (m : DMs) (cs : List Value), v = .agg cs.toArray ∧ IsMs w m cs := by
  have : ∃ cs : Array Value, v = .agg cs := by
    simp only [Value.okWide, Tryz.underlying28] at hk
    obtain ⟨cs, h1, _⟩ := hk
    exact ⟨cs, h1⟩
  obtain ⟨cs, rfl⟩ := this
  obtain ⟨fuel, h⟩ := h
  obtain ⟨s, hs⟩ := open_ms_trod (x := (d, p)) h hs
  exact ⟨s, cs.toList, by simp, by simpa [Value.cells] using hs⟩
end
end Go.Proofs.YtonncfminojejaaGreatDoor

namespace Go.Proofs.YtonncfminojejaaGreatDoor
open Go.RowKit
@[go_sem] theorem bnil_eq (k : Nat) : dbin Tryz.prog .eql 30 (.tmp k) (.const .nilIface) (.v .nilIface) (.v .nilIface) = some (True, .v (.bool true)) := by kernel_rfl
@[go_sem] theorem bnil_ne (k : Nat) : dbin Tryz.prog .neq 30 (.tmp k) (.const .nilIface) (.v .nilIface) (.v .nilIface) = some (True, .v (.bool false)) := by kernel_rfl
@[go_sem] theorem bpnil_eq (k : Nat) : dbin Tryz.prog .eql 101 (.tmp k) (.const (.pointer none)) (.v (.pointer none)) (.v (.pointer none)) = some (True, .v (.bool true)) := by kernel_rfl
@[go_sem] theorem bpnil_ne (k : Nat) : dbin Tryz.prog .neq 101 (.tmp k) (.const (.pointer none)) (.v (.pointer none)) (.v (.pointer none)) = some (True, .v (.bool false)) := by kernel_rfl
theorem dat_of_dwp {P : Program} (hm : P.follows .mixedOrders = true) {g : FuncId} {fn : Func} {c : Code} (hf : P.funcs[g]? = some fn) (hb : fn.body = some c) (hent : ∀ vs w, (callFunc g vs).run P w = .ok (.enter g vs) w) {rs : List ResultVar} (hrs : fn.results.toList = rs) {args : List D} (hok : (codeOk fn.ntmps c && fn.results.all (resOk fn.ntmps) && Nat.ble args.length fn.ntmps) = true) {d : D} (hc : d.closed) {S : St}
    (h : S.WF → dwp P c (DQ.pfin P rs S d) (argF args) S) : DAt P g args S d :=
  dcalls_of_dwp hm hf hb hent hrs hok fun hw => dwp_mono c (pfin_fin hw hc) (h hw)
theorem Chain.fn {S : St} {ps : List Int} {n : Int} {d : D} (hc : Chain S ps n d) : ∃ e : Nat → D, e 0 = d ∧ e ps.length = erD n ∧ ∀ i (h : i < ps.length), ∃ k, e i = atD k ∧ S.ob k = some (.box 104 [.v (.int .i64 ps[i]), e (i + 1)]) := by
  induction hc with
  | code n => exact ⟨fun _ => erD n, rfl, rfl, fun i h => absurd h (Nat.not_lt_zero _)⟩
  | @at_ p ps n k d hk _ ih =>
    obtain ⟨e, e0, en, h⟩ := ih
    refine ⟨fun i => match i with | 0 => atD k | i + 1 => e i, rfl, en, fun i hi => ?_⟩
    cases i with
    | zero => exact ⟨k, rfl, by rw [hk, ← e0]; rfl⟩
    | succ i => exact h i (Nat.lt_of_succ_lt_succ hi)
theorem unwrap_at {S : St} {K : D → St → Prop} {k : Nat} {p d : D} (hp : p.width = 1) (hk : S.ob k = some (.box 104 [p, d])) (h : K d S) : DCalls Tryz.prog 131 [.loc k 0] S K := by
  refine dcalls_inline mixed Tryz.func131 rfl (fun _ _ => by kernel_rfl) (rs := [.tmp 2]) rfl (by kernel_rfl) (fun hS => ?_)
  (simp (disch := first | decide | omega | (simp only [nx]; first | done | omega)) only [go_sem, hk]; (repeat with_reducible refine aI ?_))
  exact h
set_option maxRecDepth 200000 in
set_option maxHeartbeats 4000000 in
theorem asWalkEr {S : St} {ps : List Int} {n : Int} {d x0 : D} {kb kc : Nat} {K : D → St → Prop} (hc : Chain S ps n d) (hk : S.ob kc = some (.box 56 [x0])) (hb : S.ob kb = some (.box 84 [.loc kc 0])) (hl : ps.length < 1000000)
    (h : ∀ T, S.next ≤ T.next → T.WF → (∀ j o, j ≠ kc → S.ob j = some o → T.ob j = some o) → T.ob kc = some (.box 56 [.v (.int .i64 n)]) → K (.v (.bool true)) T) :
    DCalls Tryz.prog 80 [d, .ifc 84 (.loc kc 0), .agg [.v (tyV 84), .loc kb 0, .v (.int .u64 150)], rtD 56] S K := by
  obtain ⟨e, e0, en, he⟩ := hc.fn
  refine dcalls_inline mixed Tryz.func80 rfl (fun _ _ => by kernel_rfl) (rs := [.tmp 8]) rfl (by kernel_rfl) (fun hS => ?_)
  (simp (disch := first | decide | omega | (simp only [nx]; first | done | omega)) only [go_sem]; (repeat with_reducible refine aI ?_))
  (refine dloop_st (fun t => List.contains [0, 8, 9, 10, 11, 12, 14, 15, 16, 17, 18, 19, 20, 21, 22, 23, 24, 25, 26, 27, 28, 29, 30, 31, 32, 33, 34, 35, 36, 37, 38, 39, 40, 41, 42, 43, 44, 45, 46, 47, 48, 49, 50, 51, 52, 53, 54, 55, 56, 57, 58, 59, 60, 61] t) (by kernel_rfl) ?_ (ps.length) (fun i f => i ≤ ps.length ∧ f 0 = e i ∧ f 8 = .v (.bool false)) ?_ ?_; (exact (by (repeat' first | assumption | refine St.WF.leave ?_ _ | refine St.WF.add ?_ _ | refine St.WF.set ?_ ?_ _ | refine St.WF.grow ?_ _ _ _ | refine St.WF.keep ?_ ?_ | (first | omega | (simp only [RowOk.lo, nx]; first | done | omega))))); (exact ⟨(by omega), (by (first | (simp (disch := first | decide | omega | (simp only [nx]; first | done | omega)) only [go_sem, e0]; first | done | rfl) | rfl)), (by (first | (simp (disch := first | decide | omega | (simp only [nx]; first | done | omega)) only [go_sem, e0]; first | done | rfl) | rfl))⟩); intro i g tn hn hT hg hI; obtain ⟨le, q0, q8⟩ := hI; have q1 := hg 1 rfl; have q3 := hg 3 rfl; have q6 := hg 6 rfl; simp (disch := first | decide | omega | (simp only [nx]; first | done | omega)) only [go_sem, e0] at q1 q3 q6; clear hg; have hn' := hn; try simp only [add_next, set_next, grow_next, leave_next, drop_next] at hn')
  have hB : ∀ j o, S.ob j = some o → (St.mk tn (S.add (.box 112 [.v (tyV 84), .loc kb 0, .v (.int .u64 150)])).ob).ob j = some o := fun j o ho => by
    have hkl := hS.lt ho
    show (if j = S.next then _ else S.ob j) = _
    rw [if_neg (by omega), ho]
  by_cases hlt : i < ps.length
  · obtain ⟨k, ek, hok⟩ := he i hlt
    rw [ek] at q0
    (simp (disch := first | decide | omega | (simp only [nx]; first | done | omega)) only [go_sem, q0, q1, q3, q6]; (repeat with_reducible refine aI ?_))
    refine rlTypeOfAt ?_
    (simp (disch := first | decide | omega | (simp only [nx]; first | done | omega)) only [go_sem, q0, q1, q3, q6]; (repeat with_reducible refine aI ?_))
    refine dinvoke_mk methAsgAt (rlAsgAtEr ?_)
    (simp (disch := first | decide | omega | (simp only [nx]; first | done | omega)) only [go_sem, q0, q1, q3, q6]; (repeat with_reducible refine aI ?_))
    refine asrAtAs ?_
    (simp (disch := first | decide | omega | (simp only [nx]; first | done | omega)) only [go_sem, q0, q1, q3, q6]; (repeat with_reducible refine aI ?_))
    refine asrAtUn ?_
    (simp (disch := first | decide | omega | (simp only [nx]; first | done | omega)) only [go_sem, q0, q1, q3, q6]; (repeat with_reducible refine aI ?_))
    obtain ⟨t', u', eu⟩ : ∃ t u, e (i + 1) = .ifc t u := by
      by_cases h2 : i + 1 < ps.length
      · obtain ⟨k', ek', _⟩ := he (i + 1) h2
        exact ⟨_, _, ek'⟩
      · rw [show i + 1 = ps.length by omega, en]; exact ⟨_, _, rfl⟩
    refine dinvoke_mk methUn (unwrap_at rfl (hB _ _ hok) ?_)
    (simp (disch := first | decide | omega | (simp only [nx]; first | done | omega)) only [go_sem, q0, eu, q1, q3, q6]; (repeat with_reducible refine aI ?_))
    (refine ⟨by omega, (by (repeat' first | assumption | exact St.Sub.refl _ | exact RowOk.sub (by assumption) (by assumption) | refine St.Sub.trans ?_ (RowOk.sub (by assumption) (by assumption)) | refine St.Sub.add ?_ ?_ _ | refine St.Sub.set ?_ ?_ ?_ _ | refine St.Sub.keep ?_ ?_ | refine St.WF.leave ?_ _ | refine St.WF.add ?_ _ | refine St.WF.set ?_ ?_ _ | refine St.WF.grow ?_ _ _ _ | refine St.WF.keep ?_ ?_ | (first | omega | (simp only [RowOk.lo, nx]; first | done | omega)))), ?_⟩; refine ⟨by omega, ?_, ?_⟩; all_goals (try (first | (simp (disch := first | decide | omega | (simp only [nx]; first | done | omega)) only [go_sem, eu, q8]; first | done | rfl) | rfl)))
  · have hil : i = ps.length := by omega
    subst hil
    rw [en] at q0
    (simp (disch := first | decide | omega | (simp only [nx]; first | done | omega)) only [go_sem, q0, q1, q3, q6]; (repeat with_reducible refine aI ?_))
    refine rlTypeOfEr ?_
    (simp (disch := first | decide | omega | (simp only [nx]; first | done | omega)) only [go_sem, q0, q1, q3, q6]; (repeat with_reducible refine aI ?_))
    refine dinvoke_mk methAsgEr (rlAsgEr ?_)
    (simp (disch := first | decide | omega | (simp only [nx]; first | done | omega)) only [go_sem, q0, q1, q3, q6]; (repeat with_reducible refine aI ?_))
    refine rlElemPEr (hB _ _ hb) ?_
    (simp (disch := first | decide | omega | (simp only [nx]; first | done | omega)) only [go_sem, q0, q1, q3, q6]; (repeat with_reducible refine aI ?_))
    refine rlValueOfEr ?_
    (simp (disch := first | decide | omega | (simp only [nx]; first | done | omega)) only [go_sem, q0, q1, q3, q6]; (repeat with_reducible refine aI ?_))
    have hkc := hS.lt hk
    have hkn : kc ≠ tn := by omega
    refine rlSetEr (d0 := x0) (n := n) ?_ ?_ ?_
    · show (if kc = tn then _ else _) = _
      rw [if_neg hkn]; exact hB _ _ hk
    · show (if tn = tn then _ else _) = _
      rw [if_pos rfl]
    (simp (disch := first | decide | omega | (simp only [nx]; first | done | omega)) only [go_sem, q0, q1, q3, q6]; (repeat with_reducible refine aI ?_))
    refine h _ ?_ ?_ (fun j o hj ho => ?_) ?_
    · show S.next ≤ tn + 1
      omega
    · exact (by (repeat' first | assumption | refine St.WF.leave ?_ _ | refine St.WF.add ?_ _ | refine St.WF.set ?_ ?_ _ | refine St.WF.grow ?_ _ _ _ | refine St.WF.keep ?_ ?_ | (first | omega | (simp only [RowOk.lo, nx]; first | done | omega))))
    · show (if j = kc then _ else if j = tn then _ else _) = _
      have := hS.lt ho
      rw [if_neg hj, if_neg (by omega)]; exact hB _ _ ho
    · show (if kc = kc then _ else _) = _
      rw [if_pos rfl]
set_option maxRecDepth 200000 in
set_option maxHeartbeats 4000000 in
theorem asEr {S : St} {ps : List Int} {n : Int} {d x0 : D} {kc : Nat} {K : D → St → Prop} (hc : Chain S ps n d) (hk : S.ob kc = some (.box 56 [x0])) (hl : ps.length < 1000000)
    (h : ∀ T, S.next ≤ T.next → T.WF → (∀ j o, j ≠ kc → S.ob j = some o → T.ob j = some o) → T.ob kc = some (.box 56 [.v (.int .i64 n)]) → K (.v (.bool true)) T) :
    DCalls Tryz.prog 54 [d, .ifc 84 (.loc kc 0)] S K := by
  have hne : ∃ t u, d = .ifc t u := by cases hc <;> exact ⟨_, _, rfl⟩
  obtain ⟨t, u, rfl⟩ := hne
  refine dcalls_inline mixed Tryz.func54 rfl (fun _ _ => by kernel_rfl) (rs := [.tmp 4]) rfl (by kernel_rfl) (fun hS => ?_)
  (simp (disch := first | decide | omega | (simp only [nx]; first | done | omega)) only [go_sem]; (repeat with_reducible refine aI ?_))
  refine rlValueOfPEr ?_
  (simp (disch := first | decide | omega | (simp only [nx]; first | done | omega)) only [go_sem]; (repeat with_reducible refine aI ?_))
  refine rlTypePEr ?_
  (simp (disch := first | decide | omega | (simp only [nx]; first | done | omega)) only [go_sem]; (repeat with_reducible refine aI ?_))
  have k22 : ((22 : Int) != 22) = false := by decide
  have k20 : ((2 : Int) != 20) = true := by decide
  refine dinvoke_mk methKindPEr (rlKindPEr ?_)
  (simp (disch := first | decide | omega | (simp only [nx]; first | done | omega)) only [go_sem, k22]; (repeat with_reducible refine aI ?_))
  refine rlIsNilPEr (k := kc) (off := 0) ?_ ?_
  · (first | (simp (disch := first | decide | omega | (simp only [nx]; first | done | omega)) only [go_sem]; first | done | rfl) | rfl)
  (simp (disch := first | decide | omega | (simp only [nx]; first | done | omega)) only [go_sem, k22]; (repeat with_reducible refine aI ?_))
  refine dinvoke_mk methElemPEr (rlTElemPEr ?_)
  (simp (disch := first | decide | omega | (simp only [nx]; first | done | omega)) only [go_sem]; (repeat with_reducible refine aI ?_))
  refine dinvoke_mk methKindEr (rlKindEr ?_)
  (simp (disch := first | decide | omega | (simp only [nx]; first | done | omega)) only [go_sem, k20]; (repeat with_reducible refine aI ?_))
  refine dinvoke_mk methImplEr (rlImplEr ?_)
  (simp (disch := first | decide | omega | (simp only [nx]; first | done | omega)) only [go_sem]; (repeat with_reducible refine aI ?_))
  have hkc := hS.lt hk
  have hB : ∀ j o, S.ob j = some o → (((S.add (.box 84 [.loc kc 0])).add (.box 112 [.v (.pointer none), .v (.pointer none), .v (.int .u64 0)])).set (S.next + 1) (.box 112 [.v (tyV 84), .loc S.next 0, .v (.int .u64 150)])).ob j = some o := fun j o ho => by
    have hkl := hS.lt ho
    show (if j = S.next + 1 then _ else if j = S.next + 1 then _ else if j = S.next then _ else S.ob j) = _
    rw [if_neg (by omega), if_neg (by omega), if_neg (by omega), ho]
  refine asWalkEr (hc.mono fun k cs hq => hB _ _ hq) (hB _ _ hk) (kb := S.next) ?_ hl fun T t1 t2 t3 t4 => ?_
  · (first | (simp (disch := first | decide | omega | (simp only [nx]; first | done | omega)) only [go_sem]; first | done | rfl) | rfl)
  (simp (disch := first | decide | omega | (simp only [nx]; first | done | omega)) only [go_sem]; (repeat with_reducible refine aI ?_))
  exact h T (by have : S.next + 1 + 1 ≤ T.next := t1; omega) t2 (fun j o hj ho => t3 j o hj (hB _ _ ho)) t4
end Go.Proofs.YtonncfminojejaaGreatDoor

namespace Go.Proofs.YtonncfminojejaaGreatDoor
open Go.RowKit
set_option maxRecDepth 200000 in
set_option maxHeartbeats 4000000 in
theorem asWalkAt {S : St} {x0 : D} {kb kc : Nat} {K : D → St → Prop} {k off : Nat} (hk : S.ob kc = some (.box 101 [x0])) (hb : S.ob kb = some (.box 126 [.loc kc 0]))
    (h : ∀ T, S.next ≤ T.next → T.WF → (∀ j o, j ≠ kc → S.ob j = some o → T.ob j = some o) → T.ob kc = some (.box 101 [.loc k off]) → K (.v (.bool true)) T) :
    DCalls Tryz.prog 80 [.ifc 101 (.loc k off), .ifc 126 (.loc kc 0), .agg [.v (tyV 126), .loc kb 0, .v (.int .u64 150)], rtD 101] S K := by
  refine dcalls_inline mixed Tryz.func80 rfl (fun _ _ => by kernel_rfl) (rs := [.tmp 8]) rfl (by kernel_rfl) (fun hS => ?_)
  (simp (disch := first | decide | omega | (simp only [nx]; first | done | omega)) only [go_sem]; (repeat with_reducible refine aI ?_))
  (refine dloop_st (fun t => List.contains [0, 8, 9, 10, 11, 12, 14, 15, 16, 17, 18, 19, 20, 21, 22, 23, 24, 25, 26, 27, 28, 29, 30, 31, 32, 33, 34, 35, 36, 37, 38, 39, 40, 41, 42, 43, 44, 45, 46, 47, 48, 49, 50, 51, 52, 53, 54, 55, 56, 57, 58, 59, 60, 61] t) (by kernel_rfl) ?_ (0) (fun i f => i ≤ 0 ∧ f 0 = .ifc 101 (.loc k off) ∧ f 8 = .v (.bool false)) ?_ ?_; (exact (by (repeat' first | assumption | refine St.WF.leave ?_ _ | refine St.WF.add ?_ _ | refine St.WF.set ?_ ?_ _ | refine St.WF.grow ?_ _ _ _ | refine St.WF.keep ?_ ?_ | (first | omega | (simp only [RowOk.lo, nx]; first | done | omega))))); (exact ⟨(by omega), (by (first | (simp (disch := first | decide | omega | (simp only [nx]; first | done | omega)) only [go_sem]; first | done | rfl) | rfl)), (by (first | (simp (disch := first | decide | omega | (simp only [nx]; first | done | omega)) only [go_sem]; first | done | rfl) | rfl))⟩); intro i g tn hn hT hg hI; obtain ⟨le, q0, q8⟩ := hI; have q1 := hg 1 rfl; have q3 := hg 3 rfl; have q6 := hg 6 rfl; simp (disch := first | decide | omega | (simp only [nx]; first | done | omega)) only [go_sem] at q1 q3 q6; clear hg; have hn' := hn; try simp only [add_next, set_next, grow_next, leave_next, drop_next] at hn')
  have hB : ∀ j o, S.ob j = some o → (St.mk tn (S.add (.box 112 [.v (tyV 126), .loc kb 0, .v (.int .u64 150)])).ob).ob j = some o := fun j o ho => by
    have hkl := hS.lt ho
    show (if j = S.next then _ else S.ob j) = _
    rw [if_neg (by omega), ho]
  (simp (disch := first | decide | omega | (simp only [nx]; first | done | omega)) only [go_sem, q0, q1, q3, q6]; (repeat with_reducible refine aI ?_))
  refine rlTypeOfAt ?_
  (simp (disch := first | decide | omega | (simp only [nx]; first | done | omega)) only [go_sem, q0, q1, q3, q6]; (repeat with_reducible refine aI ?_))
  refine dinvoke_mk methAsgAt (rlAsgAt ?_)
  (simp (disch := first | decide | omega | (simp only [nx]; first | done | omega)) only [go_sem, q0, q1, q3, q6]; (repeat with_reducible refine aI ?_))
  refine rlElemPAt (hB _ _ hb) ?_
  (simp (disch := first | decide | omega | (simp only [nx]; first | done | omega)) only [go_sem, q0, q1, q3, q6]; (repeat with_reducible refine aI ?_))
  refine rlValueOfAt ?_
  (simp (disch := first | decide | omega | (simp only [nx]; first | done | omega)) only [go_sem, q0, q1, q3, q6]; (repeat with_reducible refine aI ?_))
  have hkc := hS.lt hk
  have hkn : kc ≠ tn := by omega
  refine rlSetAt (d0 := x0) (k := k) (off := off) ?_ ?_ ?_
  · show (if kc = tn then _ else _) = _
    rw [if_neg hkn]; exact hB _ _ hk
  · show (if tn = tn then _ else _) = _
    rw [if_pos rfl]
  (simp (disch := first | decide | omega | (simp only [nx]; first | done | omega)) only [go_sem, q0, q1, q3, q6]; (repeat with_reducible refine aI ?_))
  refine h _ ?_ ?_ (fun j o hj ho => ?_) ?_
  · show S.next ≤ tn + 1
    omega
  · exact (by (repeat' first | assumption | refine St.WF.leave ?_ _ | refine St.WF.add ?_ _ | refine St.WF.set ?_ ?_ _ | refine St.WF.grow ?_ _ _ _ | refine St.WF.keep ?_ ?_ | (first | omega | (simp only [RowOk.lo, nx]; first | done | omega))))
  · show (if j = kc then _ else if j = tn then _ else _) = _
    have := hS.lt ho
    rw [if_neg hj, if_neg (by omega)]; exact hB _ _ ho
  · show (if kc = kc then _ else _) = _
    rw [if_pos rfl]
set_option maxRecDepth 200000 in
set_option maxHeartbeats 4000000 in
theorem asMissAt {S : St} {x0 : D} {kb kc : Nat} {K : D → St → Prop} {n : Int} (hk : S.ob kc = some (.box 101 [x0])) (hb : S.ob kb = some (.box 126 [.loc kc 0]))
    (h : ∀ T, S.next ≤ T.next → T.WF → (∀ j o, S.ob j = some o → T.ob j = some o) → K (.v (.bool false)) T) :
    DCalls Tryz.prog 80 [erD n, .ifc 126 (.loc kc 0), .agg [.v (tyV 126), .loc kb 0, .v (.int .u64 150)], rtD 101] S K := by
  refine dcalls_inline mixed Tryz.func80 rfl (fun _ _ => by kernel_rfl) (rs := [.tmp 8]) rfl (by kernel_rfl) (fun hS => ?_)
  (simp (disch := first | decide | omega | (simp only [nx]; first | done | omega)) only [go_sem]; (repeat with_reducible refine aI ?_))
  (refine dloop_st (fun t => List.contains [0, 8, 9, 10, 11, 12, 14, 15, 16, 17, 18, 19, 20, 21, 22, 23, 24, 25, 26, 27, 28, 29, 30, 31, 32, 33, 34, 35, 36, 37, 38, 39, 40, 41, 42, 43, 44, 45, 46, 47, 48, 49, 50, 51, 52, 53, 54, 55, 56, 57, 58, 59, 60, 61] t) (by kernel_rfl) ?_ (0) (fun i f => i ≤ 0 ∧ f 0 = erD n ∧ f 8 = .v (.bool false)) ?_ ?_; (exact (by (repeat' first | assumption | refine St.WF.leave ?_ _ | refine St.WF.add ?_ _ | refine St.WF.set ?_ ?_ _ | refine St.WF.grow ?_ _ _ _ | refine St.WF.keep ?_ ?_ | (first | omega | (simp only [RowOk.lo, nx]; first | done | omega))))); (exact ⟨(by omega), (by (first | (simp (disch := first | decide | omega | (simp only [nx]; first | done | omega)) only [go_sem]; first | done | rfl) | rfl)), (by (first | (simp (disch := first | decide | omega | (simp only [nx]; first | done | omega)) only [go_sem]; first | done | rfl) | rfl))⟩); intro i g tn hn hT hg hI; obtain ⟨le, q0, q8⟩ := hI; have q1 := hg 1 rfl; have q3 := hg 3 rfl; have q6 := hg 6 rfl; simp (disch := first | decide | omega | (simp only [nx]; first | done | omega)) only [go_sem] at q1 q3 q6; clear hg; have hn' := hn; try simp only [add_next, set_next, grow_next, leave_next, drop_next] at hn')
  have hB : ∀ j o, S.ob j = some o → (St.mk tn (S.add (.box 112 [.v (tyV 126), .loc kb 0, .v (.int .u64 150)])).ob).ob j = some o := fun j o ho => by
    have hkl := hS.lt ho
    show (if j = S.next then _ else S.ob j) = _
    rw [if_neg (by omega), ho]
  (simp (disch := first | decide | omega | (simp only [nx]; first | done | omega)) only [go_sem, q0, q1, q3, q6]; (repeat with_reducible refine aI ?_))
  refine rlTypeOfEr ?_
  (simp (disch := first | decide | omega | (simp only [nx]; first | done | omega)) only [go_sem, q0, q1, q3, q6]; (repeat with_reducible refine aI ?_))
  refine dinvoke_mk methAsgEr (rlAsgErAt ?_)
  (simp (disch := first | decide | omega | (simp only [nx]; first | done | omega)) only [go_sem, q0, q1, q3, q6]; (repeat with_reducible refine aI ?_))
  refine asrErAs ?_
  (simp (disch := first | decide | omega | (simp only [nx]; first | done | omega)) only [go_sem, q0, q1, q3, q6]; (repeat with_reducible refine aI ?_))
  refine asrErUn ?_
  (simp (disch := first | decide | omega | (simp only [nx]; first | done | omega)) only [go_sem, q0, q1, q3, q6]; (repeat with_reducible refine aI ?_))
  refine asrErUs ?_
  (simp (disch := first | decide | omega | (simp only [nx]; first | done | omega)) only [go_sem, q0, q1, q3, q6]; (repeat with_reducible refine aI ?_))
  exact h _ (by show S.next ≤ tn; omega) hT (fun j o ho => hB _ _ ho)
set_option maxRecDepth 200000 in
set_option maxHeartbeats 4000000 in
theorem asAt {S : St} {x0 : D} {kc : Nat} {K : D → St → Prop} {k off : Nat} (hk : S.ob kc = some (.box 101 [x0]))
    (h : ∀ T, S.next ≤ T.next → T.WF → (∀ j o, j ≠ kc → S.ob j = some o → T.ob j = some o) → T.ob kc = some (.box 101 [.loc k off]) → K (.v (.bool true)) T) :
    DCalls Tryz.prog 54 [.ifc 101 (.loc k off), .ifc 126 (.loc kc 0)] S K := by
  refine dcalls_inline mixed Tryz.func54 rfl (fun _ _ => by kernel_rfl) (rs := [.tmp 4]) rfl (by kernel_rfl) (fun hS => ?_)
  (simp (disch := first | decide | omega | (simp only [nx]; first | done | omega)) only [go_sem]; (repeat with_reducible refine aI ?_))
  refine rlValueOfPAt ?_
  (simp (disch := first | decide | omega | (simp only [nx]; first | done | omega)) only [go_sem]; (repeat with_reducible refine aI ?_))
  refine rlTypePAt ?_
  (simp (disch := first | decide | omega | (simp only [nx]; first | done | omega)) only [go_sem]; (repeat with_reducible refine aI ?_))
  have k22 : ((22 : Int) != 22) = false := by decide
  have k20 : ((22 : Int) != 20) = true := by decide
  refine dinvoke_mk methKindPAt (rlKindPAt ?_)
  (simp (disch := first | decide | omega | (simp only [nx]; first | done | omega)) only [go_sem, k22]; (repeat with_reducible refine aI ?_))
  refine rlIsNilPAt (k := kc) (off := 0) ?_ ?_
  · (first | (simp (disch := first | decide | omega | (simp only [nx]; first | done | omega)) only [go_sem]; first | done | rfl) | rfl)
  (simp (disch := first | decide | omega | (simp only [nx]; first | done | omega)) only [go_sem, k22]; (repeat with_reducible refine aI ?_))
  refine dinvoke_mk methElemPAt (rlTElemPAt ?_)
  (simp (disch := first | decide | omega | (simp only [nx]; first | done | omega)) only [go_sem]; (repeat with_reducible refine aI ?_))
  refine dinvoke_mk methKindAt (rlKindAt ?_)
  (simp (disch := first | decide | omega | (simp only [nx]; first | done | omega)) only [go_sem, k20]; (repeat with_reducible refine aI ?_))
  refine dinvoke_mk methImplAt (rlImplAt ?_)
  (simp (disch := first | decide | omega | (simp only [nx]; first | done | omega)) only [go_sem]; (repeat with_reducible refine aI ?_))
  have hkc := hS.lt hk
  have hB : ∀ j o, S.ob j = some o → (((S.add (.box 126 [.loc kc 0])).add (.box 112 [.v (.pointer none), .v (.pointer none), .v (.int .u64 0)])).set (S.next + 1) (.box 112 [.v (tyV 126), .loc S.next 0, .v (.int .u64 150)])).ob j = some o := fun j o ho => by
    have hkl := hS.lt ho
    show (if j = S.next + 1 then _ else if j = S.next + 1 then _ else if j = S.next then _ else S.ob j) = _
    rw [if_neg (by omega), if_neg (by omega), if_neg (by omega), ho]
  refine asWalkAt (hB _ _ hk) (kb := S.next) ?_ fun T t1 t2 t3 t4 => ?_
  · (first | (simp (disch := first | decide | omega | (simp only [nx]; first | done | omega)) only [go_sem]; first | done | rfl) | rfl)
  (simp (disch := first | decide | omega | (simp only [nx]; first | done | omega)) only [go_sem]; (repeat with_reducible refine aI ?_))
  exact h T (by have : S.next + 1 + 1 ≤ T.next := t1; omega) t2 (fun j o hj ho => t3 j o hj (hB _ _ ho)) t4
set_option maxRecDepth 200000 in
set_option maxHeartbeats 4000000 in
theorem asNoAt {S : St} {x0 : D} {kc : Nat} {K : D → St → Prop} {n : Int} (hk : S.ob kc = some (.box 101 [x0]))
    (h : ∀ T, S.next ≤ T.next → T.WF → (∀ j o, S.ob j = some o → T.ob j = some o) → K (.v (.bool false)) T) :
    DCalls Tryz.prog 54 [erD n, .ifc 126 (.loc kc 0)] S K := by
  refine dcalls_inline mixed Tryz.func54 rfl (fun _ _ => by kernel_rfl) (rs := [.tmp 4]) rfl (by kernel_rfl) (fun hS => ?_)
  (simp (disch := first | decide | omega | (simp only [nx]; first | done | omega)) only [go_sem]; (repeat with_reducible refine aI ?_))
  refine rlValueOfPAt ?_
  (simp (disch := first | decide | omega | (simp only [nx]; first | done | omega)) only [go_sem]; (repeat with_reducible refine aI ?_))
  refine rlTypePAt ?_
  (simp (disch := first | decide | omega | (simp only [nx]; first | done | omega)) only [go_sem]; (repeat with_reducible refine aI ?_))
  have k22 : ((22 : Int) != 22) = false := by decide
  have k20 : ((22 : Int) != 20) = true := by decide
  refine dinvoke_mk methKindPAt (rlKindPAt ?_)
  (simp (disch := first | decide | omega | (simp only [nx]; first | done | omega)) only [go_sem, k22]; (repeat with_reducible refine aI ?_))
  refine rlIsNilPAt (k := kc) (off := 0) ?_ ?_
  · (first | (simp (disch := first | decide | omega | (simp only [nx]; first | done | omega)) only [go_sem]; first | done | rfl) | rfl)
  (simp (disch := first | decide | omega | (simp only [nx]; first | done | omega)) only [go_sem, k22]; (repeat with_reducible refine aI ?_))
  refine dinvoke_mk methElemPAt (rlTElemPAt ?_)
  (simp (disch := first | decide | omega | (simp only [nx]; first | done | omega)) only [go_sem]; (repeat with_reducible refine aI ?_))
  refine dinvoke_mk methKindAt (rlKindAt ?_)
  (simp (disch := first | decide | omega | (simp only [nx]; first | done | omega)) only [go_sem, k20]; (repeat with_reducible refine aI ?_))
  refine dinvoke_mk methImplAt (rlImplAt ?_)
  (simp (disch := first | decide | omega | (simp only [nx]; first | done | omega)) only [go_sem]; (repeat with_reducible refine aI ?_))
  have hkc := hS.lt hk
  have hB : ∀ j o, S.ob j = some o → (((S.add (.box 126 [.loc kc 0])).add (.box 112 [.v (.pointer none), .v (.pointer none), .v (.int .u64 0)])).set (S.next + 1) (.box 112 [.v (tyV 126), .loc S.next 0, .v (.int .u64 150)])).ob j = some o := fun j o ho => by
    have hkl := hS.lt ho
    show (if j = S.next + 1 then _ else if j = S.next + 1 then _ else if j = S.next then _ else S.ob j) = _
    rw [if_neg (by omega), if_neg (by omega), if_neg (by omega), ho]
  refine asMissAt (hB _ _ hk) (kb := S.next) ?_ fun T t1 t2 t3 => ?_
  · (first | (simp (disch := first | decide | omega | (simp only [nx]; first | done | omega)) only [go_sem]; first | done | rfl) | rfl)
  (simp (disch := first | decide | omega | (simp only [nx]; first | done | omega)) only [go_sem]; (repeat with_reducible refine aI ?_))
  exact h T (by have : S.next + 1 + 1 ≤ T.next := t1; omega) t2 (fun j o ho => t3 j o (hB _ _ ho))
end Go.Proofs.YtonncfminojejaaGreatDoor

namespace Go.Proofs.YtonncfminojejaaGreatDoor
open Go.RowKit
theorem pfin_finA {P : Program} {rs : List ResultVar} {S : St} {d : D} (hw : S.WF) (hc : d.all (· < S.next)) : ∀ e f S', DQ.pfin P rs S d e f S' → DQ.fin P rs S (fun d' T => d' = d ∧ T = S) e f S' := by
  have key : ∀ f S', dresL P f S' rs (fun ds => PFin S S' (one ds) d) → dresL P f S' rs (fun ds => DFinT P S S' (one ds) fun d' T => d' = d ∧ T = S) := fun f S' h =>
    dresL_mono (fun ds ⟨h1, h2⟩ => DFin.t ⟨d, S, h1 ▸ DLe.frz _, hc, h2.next, Nat.le_refl _, fun k o hk => ⟨h2.ob k o hk, hw.lt hk, fun _ _ _ => .inl hk⟩, rfl, rfl⟩) h
  intro e f S' h
  cases e with
  | normal => exact key f S' h
  | ret => exact key f S' h
  | exit i => exact h
theorem dat_of_dwpA {P : Program} (hm : P.follows .mixedOrders = true) {g : FuncId} {fn : Func} {c : Code} (hf : P.funcs[g]? = some fn) (hb : fn.body = some c) (hent : ∀ vs w, (callFunc g vs).run P w = .ok (.enter g vs) w) {rs : List ResultVar} (hrs : fn.results.toList = rs) {args : List D} (hok : (codeOk fn.ntmps c && fn.results.all (resOk fn.ntmps) && Nat.ble args.length fn.ntmps) = true) {d : D} {S : St} (hc : S.WF → d.all (· < S.next))
    (h : S.WF → dwp P c (DQ.pfin P rs S d) (argF args) S) : DAt P g args S d :=
  dcalls_of_dwp hm hf hb hent hrs hok fun hw => dwp_mono c (pfin_finA hw (hc hw)) (h hw)
theorem DAt.go {P : Program} {g : FuncId} {args : List D} {S : St} {d : D} {K : D → St → Prop} (h : DAt P g args S d) (k : K d S) : DCalls P g args S K := h.mono fun _ _ hq => by rw [hq.1, hq.2]; exact k
section
variable {S : St}
theorem outer_at {k : Nat} {o : Ob} (hk : S.ob k = some o) : DAt Tryz.prog 72 [atD k] S (.loc k 0) := by
  refine dat_of_dwpA (d := .loc k 0) mixed Tryz.func72 rfl (fun _ _ => by kernel_rfl) (rs := [.tmp 2]) rfl (by kernel_rfl) (fun hS => hS.lt hk) (fun hS => ?_)
  (simp (disch := first | decide | omega | (simp only [nx]; first | done | omega)) only [go_sem]; (repeat with_reducible refine aI ?_))
  refine asAt (x0 := .v (.pointer none)) ?_ fun T t1 t2 t3 t4 => ?_
  · show (if S.next = S.next then _ else _) = _
    rw [if_pos rfl]
  (simp (disch := first | decide | omega | (simp only [nx]; first | done | omega)) only [go_sem, t4]; (repeat with_reducible refine aI ?_))
  have hsub : S.Sub T := ⟨by have : S.next + 1 ≤ T.next := t1; omega, fun j o ho => t3 j o (by have := hS.lt ho; omega) (by have := hS.lt ho; show (if j = S.next then _ else _) = _; rw [if_neg (by omega), ho])⟩
  refine ⟨?_, (by (repeat' first | assumption | exact St.Sub.refl _ | exact RowOk.sub (by assumption) (by assumption) | refine St.Sub.trans ?_ (RowOk.sub (by assumption) (by assumption)) | refine St.Sub.add ?_ ?_ _ | refine St.Sub.set ?_ ?_ ?_ _ | refine St.Sub.keep ?_ ?_ | refine St.WF.leave ?_ _ | refine St.WF.add ?_ _ | refine St.WF.set ?_ ?_ _ | refine St.WF.grow ?_ _ _ _ | refine St.WF.keep ?_ ?_ | (first | omega | (simp only [RowOk.lo, nx]; first | done | omega))))⟩
  rfl
theorem outer_no {n : Int} : DAt Tryz.prog 72 [erD n] S (.v (.pointer none)) := by
  refine dat_of_dwpA (d := .v (.pointer none)) mixed Tryz.func72 rfl (fun _ _ => by kernel_rfl) (rs := [.tmp 2]) rfl (by kernel_rfl) (fun hS => trivial) (fun hS => ?_)
  (simp (disch := first | decide | omega | (simp only [nx]; first | done | omega)) only [go_sem]; (repeat with_reducible refine aI ?_))
  refine asNoAt (x0 := .v (.pointer none)) ?_ fun T t1 t2 t3 => ?_
  · show (if S.next = S.next then _ else _) = _
    rw [if_pos rfl]
  (simp (disch := first | decide | omega | (simp only [nx]; first | done | omega)) only [go_sem]; (repeat with_reducible refine aI ?_))
  have hsub : S.Sub T := ⟨by have : S.next + 1 ≤ T.next := t1; omega, fun j o ho => t3 j o (by have := hS.lt ho; show (if j = S.next then _ else _) = _; rw [if_neg (by omega), ho])⟩
  refine ⟨?_, (by (repeat' first | assumption | exact St.Sub.refl _ | exact RowOk.sub (by assumption) (by assumption) | refine St.Sub.trans ?_ (RowOk.sub (by assumption) (by assumption)) | refine St.Sub.add ?_ ?_ _ | refine St.Sub.set ?_ ?_ ?_ _ | refine St.Sub.keep ?_ ?_ | refine St.WF.leave ?_ _ | refine St.WF.add ?_ _ | refine St.WF.set ?_ ?_ _ | refine St.WF.grow ?_ _ _ _ | refine St.WF.keep ?_ ?_ | (first | omega | (simp only [RowOk.lo, nx]; first | done | omega))))⟩
  rfl
theorem wrap_at {K : D → St → Prop} {t : TypeId} {u : D} {p : Int} (h : K (atD S.next) (S.add (.box 104 [.v (.int .i64 p), .ifc t u]))) : DCalls Tryz.prog 66 [.ifc t u, .v (.int .i64 p)] S K := by
  refine dcalls_inline mixed Tryz.func66 rfl (fun _ _ => by kernel_rfl) (rs := [.tmp 4]) rfl (by kernel_rfl) (fun hS => ?_)
  (simp (disch := first | decide | omega | (simp only [nx]; first | done | omega)) only [go_sem]; (repeat with_reducible refine aI ?_))
  exact h
def outP : List Int → Int
  | [] => -1
  | p :: _ => p
theorem place_at {ps : List Int} {n : Int} {d : D} (hc : Chain S ps n d) : DAt Tryz.prog 37 [d] S (.v (.int .i64 (outP ps))) := by
  refine dat_of_dwpA (d := .v (.int .i64 (outP ps))) mixed Tryz.func37 rfl (fun _ _ => by kernel_rfl) (rs := [.tmp 2]) rfl (by kernel_rfl) (fun hS => trivial) (fun hS => ?_)
  cases hc with
  | code n =>
    (simp (disch := first | decide | omega | (simp only [nx]; first | done | omega)) only [go_sem]; (repeat with_reducible refine aI ?_))
    refine outer_no.go ?_
    (simp (disch := first | decide | omega | (simp only [nx]; first | done | omega)) only [go_sem]; (repeat with_reducible refine aI ?_))
    refine ⟨?_, (by (repeat' first | assumption | exact St.Sub.refl _ | exact RowOk.sub (by assumption) (by assumption) | refine St.Sub.trans ?_ (RowOk.sub (by assumption) (by assumption)) | refine St.Sub.add ?_ ?_ _ | refine St.Sub.set ?_ ?_ ?_ _ | refine St.Sub.keep ?_ ?_ | refine St.WF.leave ?_ _ | refine St.WF.add ?_ _ | refine St.WF.set ?_ ?_ _ | refine St.WF.grow ?_ _ _ _ | refine St.WF.keep ?_ ?_ | (first | omega | (simp only [RowOk.lo, nx]; first | done | omega))))⟩
    rfl
  | at_ hk hq =>
    (simp (disch := first | decide | omega | (simp only [nx]; first | done | omega)) only [go_sem]; (repeat with_reducible refine aI ?_))
    refine (outer_at hk).go ?_
    (simp (disch := first | decide | omega | (simp only [nx]; first | done | omega)) only [go_sem, hk]; (repeat with_reducible refine aI ?_))
    refine ⟨?_, (by (repeat' first | assumption | exact St.Sub.refl _ | exact RowOk.sub (by assumption) (by assumption) | refine St.Sub.trans ?_ (RowOk.sub (by assumption) (by assumption)) | refine St.Sub.add ?_ ?_ _ | refine St.Sub.set ?_ ?_ ?_ _ | refine St.Sub.keep ?_ ?_ | refine St.WF.leave ?_ _ | refine St.WF.add ?_ _ | refine St.WF.set ?_ ?_ _ | refine St.WF.grow ?_ _ _ _ | refine St.WF.keep ?_ ?_ | (first | omega | (simp only [RowOk.lo, nx]; first | done | omega))))⟩
    rfl
end
end Go.Proofs.YtonncfminojejaaGreatDoor

namespace Go.Proofs.YtonncfminojejaaGreatDoor
open Go.ChangeShapes Go.WideShapes Go.ChangeAt Go.RowKit Go.Deep Go.Joins
section
variable {H : Type} {enc : TypeId × Value → H} {w : World}
theorem door_fix (P : Program) (b i : Nat) : Fix P door_st (fun _ => none) b i := fun _ _ h => by cases h
end
end Go.Proofs.YtonncfminojejaaGreatDoor

namespace Go.Proofs.YtonncfminojejaaGreatDoor
open Go.RowKit
theorem sumE_take : ∀ {l : List (List UInt8)} {i : Nat} (h : i < l.length), sumE (l.take (i + 1)) = sumE (l.take i) + l[i].length
  | b :: l, 0, _ => by simp [sumE]
  | b :: l, i + 1, h => by
    have := sumE_take (l := l) (i := i) (by simpa using h)
    rw [List.take_succ_cons, List.take_succ_cons, sumE, sumE, this]
    simp only [List.getElem_cons_succ]
    omega
theorem sumE_le : ∀ (l : List (List UInt8)) (i : Nat), sumE (l.take i) ≤ sumE l
  | [], i => by simp [sumE]
  | b :: l, 0 => Nat.zero_le _
  | b :: l, i + 1 => by
    have := sumE_le l i
    simp only [List.take_succ_cons, sumE]
    omega
def greatM (m : DMs) : Bool := decide (9000 < m.es.length + sumE m.es) || decide (80 < m.ids.length)
theorem sum_part {l : List (List UInt8)} {b : List UInt8} (h : b ∈ l) : b.length ≤ sumE l := by
  induction l with
  | nil => cases h
  | cons x l ih =>
    rcases List.mem_cons.1 h with rfl | h
    · exact Nat.le_add_right _ _
    · exact Nat.le_trans (ih h) (Nat.le_add_left _ _)
theorem great_no {m : DMs} (h : greatM m = false) : m.es.length ≤ 9000 ∧ (∀ b ∈ m.es, b.length ≤ 9000) ∧ m.ids.length ≤ 80 ∧ m.es.length + sumE m.es ≤ 9000 := by
  rw [greatM, Bool.or_eq_false_iff, decide_eq_false_iff_not, decide_eq_false_iff_not] at h
  refine ⟨by omega, fun b hb => ?_, by omega, by omega⟩
  have := sum_part hb
  omega
section
set_option maxRecDepth 200000
set_option maxHeartbeats 8000000
theorem great25_d (m : DMs) (he : m.es.length ≤ 140737488355328) (hb : ∀ b ∈ m.es, b.length ≤ 140737488355328) : DPure Tryz.prog 13 [encMs m] (.v (.bool (greatM m))) := by
  refine dpure_of_dwp mixed Tryz.func13 rfl (fun _ _ => by kernel_rfl) (rs := [.tmp 2]) rfl (by kernel_rfl) trivial (fun S hS => ?_)
  (simp (disch := first | decide | omega | (simp only [nx]; first | done | omega)) only [go_sem]; (repeat with_reducible refine aI ?_))
  (refine dloop_st (fun t => List.contains [3, 4, 8, 9, 10, 11, 12, 13, 14, 15, 16, 17, 18, 19, 20, 21, 22, 23, 24, 25, 26] t) (by kernel_rfl) ?_ (m.es.length) (fun i f => i ≤ m.es.length ∧ f 4 = .v (.int .i64 (i : Nat)) ∧ f 3 = .v (.int .i64 ((m.es.length + sumE (m.es.take i) : Nat) : Int)) ∧ (m.es.length + sumE (m.es.take i) ≤ 1000000000000000)) ?_ ?_; (exact (by (repeat' first | assumption | refine St.WF.leave ?_ _ | refine St.WF.add ?_ _ | refine St.WF.set ?_ ?_ _ | refine St.WF.grow ?_ _ _ _ | refine St.WF.keep ?_ ?_ | (first | omega | (simp only [RowOk.lo, nx]; first | done | omega))))); (exact ⟨(by omega), (by (first | (simp (disch := first | decide | omega | (simp only [nx]; first | done | omega)) only [go_sem]; first | done | rfl) | rfl)), (by (first | (simp (disch := first | decide | omega | (simp only [nx]; first | done | omega)) only [go_sem]; first | done | rfl) | rfl)), (by simp [sumE]; omega)⟩); intro i g tn hn hT hg hI; obtain ⟨le, q4, q3, hs⟩ := hI; have q1 := hg 1 rfl; have q2 := hg 2 rfl; simp (disch := first | decide | omega | (simp only [nx]; first | done | omega)) only [go_sem] at q1 q2; clear hg; have hn' := hn; try simp only [add_next, set_next, grow_next, leave_next, drop_next] at hn')
  have hle := sumE_le m.es i
  by_cases hlt : i < m.es.length
  · have b1 : decide ((i : Int) < (m.es.length : Int)) = true := decide_eq_true (by omega)
    have w1 : IntKind.i64.wrap ((i : Int) + 1) = ((i + 1 : Nat) : Int) := IntWalk.i64_in _ ⟨by omega, by omega⟩
    by_cases hg : m.es.length + sumE (m.es.take i) ≤ 9000
    · have b2 : decide (((m.es.length + sumE (m.es.take i) : Nat) : Int) ≤ 9000) = true := decide_eq_true (by omega)
      have hbi := hb _ (List.getElem_mem hlt)
      have w2 : IntKind.i64.wrap (((m.es.length + sumE (m.es.take i) : Nat) : Int) + (m.es[i].length : Int)) = ((m.es.length + sumE (m.es.take (i + 1)) : Nat) : Int) := by
        rw [sumE_take hlt]
        exact (IntWalk.i64_in _ ⟨by omega, by omega⟩).trans (by omega)
      have ce := cells_encB m.es[i]
      (simp (disch := first | decide | omega | (simp only [nx]; first | done | omega)) only [go_sem, q1, q3, q4, b1, b2, hlt, ce, w1, w2]; (repeat with_reducible refine aI ?_))
      (refine ⟨by omega, (by (repeat' first | assumption | exact St.Sub.refl _ | exact RowOk.sub (by assumption) (by assumption) | refine St.Sub.trans ?_ (RowOk.sub (by assumption) (by assumption)) | refine St.Sub.add ?_ ?_ _ | refine St.Sub.set ?_ ?_ ?_ _ | refine St.Sub.keep ?_ ?_ | refine St.WF.leave ?_ _ | refine St.WF.add ?_ _ | refine St.WF.set ?_ ?_ _ | refine St.WF.grow ?_ _ _ _ | refine St.WF.keep ?_ ?_ | (first | omega | (simp only [RowOk.lo, nx]; first | done | omega)))), ?_⟩; refine ⟨by omega, ?_, ?_, ?_⟩; all_goals (try (first | (simp (disch := first | decide | omega | (simp only [nx]; first | done | omega)) only [go_sem, w1, w2]; first | done | rfl) | rfl)))
      rw [sumE_take hlt]; omega
    · have b2 : decide (((m.es.length + sumE (m.es.take i) : Nat) : Int) ≤ 9000) = false := decide_eq_false (by omega)
      have b3 : decide (((m.es.length + sumE (m.es.take i) : Nat) : Int) > 9000) = true := decide_eq_true (by omega)
      (simp (disch := first | decide | omega | (simp only [nx]; first | done | omega)) only [go_sem, q1, q3, q4, b1, b2, b3]; (repeat with_reducible refine aI ?_))
      refine ⟨?_, (by (repeat' first | assumption | exact St.Sub.refl _ | exact RowOk.sub (by assumption) (by assumption) | refine St.Sub.trans ?_ (RowOk.sub (by assumption) (by assumption)) | refine St.Sub.add ?_ ?_ _ | refine St.Sub.set ?_ ?_ ?_ _ | refine St.Sub.keep ?_ ?_ | refine St.WF.leave ?_ _ | refine St.WF.add ?_ _ | refine St.WF.set ?_ ?_ _ | refine St.WF.grow ?_ _ _ _ | refine St.WF.keep ?_ ?_ | (first | omega | (simp only [RowOk.lo, nx]; first | done | omega))))⟩
      have : greatM m = true := by rw [greatM, decide_eq_true (by omega : 9000 < m.es.length + sumE m.es)]; rfl
      rw [this]; rfl
  · have b1 : decide ((i : Int) < (m.es.length : Int)) = false := decide_eq_false (by omega)
    have et : m.es.take i = m.es := List.take_of_length_le (by omega)
    rw [et] at q3 hs
    by_cases hg : 9000 < m.es.length + sumE m.es
    · have b3 : decide (((m.es.length + sumE m.es : Nat) : Int) > 9000) = true := decide_eq_true (by omega)
      (simp (disch := first | decide | omega | (simp only [nx]; first | done | omega)) only [go_sem, q1, q3, q4, b1, b3]; (repeat with_reducible refine aI ?_))
      refine ⟨?_, (by (repeat' first | assumption | exact St.Sub.refl _ | exact RowOk.sub (by assumption) (by assumption) | refine St.Sub.trans ?_ (RowOk.sub (by assumption) (by assumption)) | refine St.Sub.add ?_ ?_ _ | refine St.Sub.set ?_ ?_ ?_ _ | refine St.Sub.keep ?_ ?_ | refine St.WF.leave ?_ _ | refine St.WF.add ?_ _ | refine St.WF.set ?_ ?_ _ | refine St.WF.grow ?_ _ _ _ | refine St.WF.keep ?_ ?_ | (first | omega | (simp only [RowOk.lo, nx]; first | done | omega))))⟩
      have : greatM m = true := by rw [greatM, decide_eq_true hg]; rfl
      rw [this]; rfl
    · have b3 : decide (((m.es.length + sumE m.es : Nat) : Int) > 9000) = false := decide_eq_false (by omega)
      have b4 : decide ((m.ids.length : Int) > 80) = decide (80 < m.ids.length) := decide_eq_decide.2 (by omega)
      (simp (disch := first | decide | omega | (simp only [nx]; first | done | omega)) only [go_sem, q1, q3, q4, b1, b3, b4]; (repeat with_reducible refine aI ?_))
      refine ⟨?_, (by (repeat' first | assumption | exact St.Sub.refl _ | exact RowOk.sub (by assumption) (by assumption) | refine St.Sub.trans ?_ (RowOk.sub (by assumption) (by assumption)) | refine St.Sub.add ?_ ?_ _ | refine St.Sub.set ?_ ?_ ?_ _ | refine St.Sub.keep ?_ ?_ | refine St.WF.leave ?_ _ | refine St.WF.add ?_ _ | refine St.WF.set ?_ ?_ _ | refine St.WF.grow ?_ _ _ _ | refine St.WF.keep ?_ ?_ | (first | omega | (simp only [RowOk.lo, nx]; first | done | omega))))⟩
      have : greatM m = decide (80 < m.ids.length) := by rw [greatM, decide_eq_false hg]; rfl
      rw [this]; rfl
end
end Go.Proofs.YtonncfminojejaaGreatDoor

namespace Go.Proofs.YtonncfminojejaaGreatDoor
open Go.RowKit
section
open Classical
noncomputable def riseH (l : List H32) : Bool := decide (∀ j (h : j + 1 < l.length), valH l[j] < valH l[j + 1])
end
theorem riseH_true {l : List H32} : riseH l = true ↔ ∀ j (h : j + 1 < l.length), valH l[j] < valH l[j + 1] := by unfold riseH; exact @decide_eq_true_iff _ (Classical.propDecidable _)
theorem riseH_false {l : List H32} : riseH l = false ↔ ∃ j, ∃ h : j + 1 < l.length, ¬ valH l[j] < valH l[j + 1] := by
  unfold riseH
  refine (@decide_eq_false_iff_not _ (Classical.propDecidable _)).trans ?_
  constructor
  · intro h
    exact Classical.byContradiction fun hn => h fun j hj => Classical.byContradiction fun hc => hn ⟨j, hj, hc⟩
  · rintro ⟨j, h, hn⟩ hc
    exact hn (hc j h)
theorem riseH_asc {l : List H32} (h : AscH l) : riseH l = true := riseH_true.2 fun j hj => by
  have := (List.pairwise_iff_getElem.1 h) j (j + 1) (by omega) hj (by omega)
  unfold hk at this
  omega
theorem riseH_nil : riseH [] = true := riseH_true.2 fun j h => by simp at h
theorem riseH_one (x : H32) : riseH [x] = true := riseH_true.2 fun j h => by simp at h
theorem rise_at {l : List H32} {i : Nat} (h : i + 1 < l.length) (hn : ¬ valH l[i] < valH l[i + 1]) : riseH l = false := riseH_false.2 ⟨i, h, hn⟩
def zF : F64 := ⟨List.replicate 64 0, by simp⟩
theorem lenZ {α : Type} [DecidableEq α] (l : List α) : ((l.length : Int) == 0) = decide (l = []) := by
  cases l with
  | nil => rfl
  | cons a l => rw [decide_eq_false (by simp)]; exact beq_eq_false_iff_ne.2 (by rw [List.length_cons]; omega)
theorem placeF : placeT Tryz.prog 24 = some fun i => some (i * 1, 1) := by kernel_rfl
theorem agg_zF : D.agg [D.v (.int .u8 0), D.v (.int .u8 0), D.v (.int .u8 0), D.v (.int .u8 0), D.v (.int .u8 0), D.v (.int .u8 0), D.v (.int .u8 0), D.v (.int .u8 0), D.v (.int .u8 0), D.v (.int .u8 0), D.v (.int .u8 0), D.v (.int .u8 0), D.v (.int .u8 0), D.v (.int .u8 0), D.v (.int .u8 0), D.v (.int .u8 0), D.v (.int .u8 0), D.v (.int .u8 0), D.v (.int .u8 0), D.v (.int .u8 0), D.v (.int .u8 0), D.v (.int .u8 0), D.v (.int .u8 0), D.v (.int .u8 0), D.v (.int .u8 0), D.v (.int .u8 0), D.v (.int .u8 0), D.v (.int .u8 0), D.v (.int .u8 0), D.v (.int .u8 0), D.v (.int .u8 0), D.v (.int .u8 0), D.v (.int .u8 0), D.v (.int .u8 0), D.v (.int .u8 0), D.v (.int .u8 0), D.v (.int .u8 0), D.v (.int .u8 0), D.v (.int .u8 0), D.v (.int .u8 0), D.v (.int .u8 0), D.v (.int .u8 0), D.v (.int .u8 0), D.v (.int .u8 0), D.v (.int .u8 0), D.v (.int .u8 0), D.v (.int .u8 0), D.v (.int .u8 0), D.v (.int .u8 0), D.v (.int .u8 0), D.v (.int .u8 0), D.v (.int .u8 0), D.v (.int .u8 0), D.v (.int .u8 0), D.v (.int .u8 0), D.v (.int .u8 0), D.v (.int .u8 0), D.v (.int .u8 0), D.v (.int .u8 0), D.v (.int .u8 0), D.v (.int .u8 0), D.v (.int .u8 0), D.v (.int .u8 0), D.v (.int .u8 0)] = encF6 zF := by kernel_rfl
def otherM (m : DMs) : Bool := m.r || !decide (m.f = zF)
def batchN (n : Nat) : Bool := decide (1 ≤ n) && decide (n ≤ 8)
def badE (b : List UInt8) : Bool := decide (b.length = 0) || decide (4096 < b.length)
noncomputable def rightM (m : DMs) : Bool :=
  if m.k = 1 then decide (m.ids.length ≤ 64) && riseH m.ids && decide (m.es = [])
  else if m.k = 2 then !otherM m && batchN m.ids.length && riseH m.ids && decide (m.es = [])
  else if m.k = 3 then !otherM m && decide (m.ids = []) && batchN m.es.length && !(m.es.any badE)
  else false
section
set_option maxRecDepth 200000
set_option maxHeartbeats 8000000
theorem eless_d (a b : H32) : DPure Tryz.prog 74 [encH a, encH b] (.v (.bool (decide (valH a < valH b)))) := by
  refine dpure_of_dwp mixed Tryz.func74 rfl (fun _ _ => by kernel_rfl) (rs := [.tmp 4]) rfl (by kernel_rfl) trivial (fun S hS => ?_)
  (simp (disch := first | decide | omega | (simp only [nx]; first | done | omega)) only [go_sem]; (repeat with_reducible refine aI ?_))
  refine ddraw_mk 5 (by kernel_rfl) ?_
  (simp (disch := first | decide | omega | (simp only [nx]; first | done | omega)) only [go_sem]; (repeat with_reducible refine aI ?_))
  refine dqgo_at (cmpH_st a b (winB_hash (t := 45) a ?_) (winB_hash (t := 45) b ?_)) ?_
  · (first | (simp (disch := first | decide | omega | (simp only [nx]; first | done | omega)) only [go_sem]; first | done | rfl) | rfl)
  · (first | (simp (disch := first | decide | omega | (simp only [nx]; first | done | omega)) only [go_sem]; first | done | rfl) | rfl)
  have hc : decide (cmpH a b < 0) = decide (valH a < valH b) := by
    have h := congrFun (congrFun ltOf_cmpH a) b
    unfold ltOf ltH hk at h
    rw [h]
    exact decide_eq_decide.2 (by omega)
  (simp (disch := first | decide | omega | (simp only [nx]; first | done | omega)) only [go_sem, hc]; (repeat with_reducible refine aI ?_))
  refine ⟨?_, (by (repeat' first | assumption | exact St.Sub.refl _ | exact RowOk.sub (by assumption) (by assumption) | refine St.Sub.trans ?_ (RowOk.sub (by assumption) (by assumption)) | refine St.Sub.add ?_ ?_ _ | refine St.Sub.set ?_ ?_ ?_ _ | refine St.Sub.keep ?_ ?_ | refine St.WF.leave ?_ _ | refine St.WF.add ?_ _ | refine St.WF.set ?_ ?_ _ | refine St.WF.grow ?_ _ _ _ | refine St.WF.keep ?_ ?_ | (first | omega | (simp only [RowOk.lo, nx]; first | done | omega))))⟩
  rfl
theorem rising_d (own : Own) (l : List H32) (hl : l.length ≤ 1000000) : DPure Tryz.prog 48 [.sl own (l.map encH)] (.v (.bool (riseH l))) := by
  refine dpure_of_dwp mixed Tryz.func48 rfl (fun _ _ => by kernel_rfl) (rs := [.tmp 2]) rfl (by kernel_rfl) trivial (fun S hS => ?_)
  (simp (disch := first | decide | omega | (simp only [nx]; first | done | omega)) only [go_sem]; (repeat with_reducible refine aI ?_))
  (refine dloop_st (fun t => List.contains [2, 3, 4, 5, 6, 7, 8, 9, 10, 11, 12, 13, 14, 15, 16, 17, 18, 19, 20] t) (by kernel_rfl) ?_ (l.length) (fun i f => i ≤ l.length ∧ f 3 = .v (.int .i64 ((i + 1 : Nat) : Int)) ∧ (∀ j (h : j + 1 < l.length), j < i → valH l[j] < valH l[j + 1])) ?_ ?_; (exact (by (repeat' first | assumption | refine St.WF.leave ?_ _ | refine St.WF.add ?_ _ | refine St.WF.set ?_ ?_ _ | refine St.WF.grow ?_ _ _ _ | refine St.WF.keep ?_ ?_ | (first | omega | (simp only [RowOk.lo, nx]; first | done | omega))))); (exact ⟨(by omega), (by (first | (simp (disch := first | decide | omega | (simp only [nx]; first | done | omega)) only [go_sem]; first | done | rfl) | rfl)), (fun j h hj => by omega)⟩); intro i g tn hn hT hg hI; obtain ⟨le, q3, hs⟩ := hI; have q0 := hg 0 rfl; simp (disch := first | decide | omega | (simp only [nx]; first | done | omega)) only [go_sem] at q0; clear hg; have hn' := hn; try simp only [add_next, set_next, grow_next, leave_next, drop_next] at hn')
  by_cases hlt : i + 1 < l.length
  · have b1 : decide (((i + 1 : Nat) : Int) < (l.length : Int)) = true := decide_eq_true (by omega)
    have w1 : IntKind.i64.wrap (((i + 1 : Nat) : Int) + 1) = ((i + 1 + 1 : Nat) : Int) := IntWalk.i64_in _ ⟨by omega, by omega⟩
    have w0 : IntKind.i64.wrap (((i + 1 : Nat) : Int) - 1) = ((i : Nat) : Int) := (IntWalk.i64_in _ ⟨by omega, by omega⟩).trans (by omega)
    have hlt' : i < l.length := by omega
    have lh := l[i].2
    have lh2 := l[i + 1].2
    (simp (disch := first | decide | omega | (simp only [nx]; first | done | omega)) only [go_sem, q0, q3, b1]; (repeat with_reducible refine aI ?_))
    refine ddraw_mk 11 (by kernel_rfl) ?_
    (simp (disch := first | decide | omega | (simp only [nx]; first | done | omega)) only [go_sem, q0, q3, w0, hlt, hlt', lh, lh2]; (repeat with_reducible refine aI ?_))
    refine dqgo_mk (eless_d l[i] l[i + 1]) ?_
    by_cases hv : valH l[i] < valH l[i + 1]
    · have b2 : decide (valH l[i] < valH l[i + 1]) = true := decide_eq_true hv
      (simp (disch := first | decide | omega | (simp only [nx]; first | done | omega)) only [go_sem, b2, q3, w1]; (repeat with_reducible refine aI ?_))
      (refine ⟨by omega, (by (repeat' first | assumption | exact St.Sub.refl _ | exact RowOk.sub (by assumption) (by assumption) | refine St.Sub.trans ?_ (RowOk.sub (by assumption) (by assumption)) | refine St.Sub.add ?_ ?_ _ | refine St.Sub.set ?_ ?_ ?_ _ | refine St.Sub.keep ?_ ?_ | refine St.WF.leave ?_ _ | refine St.WF.add ?_ _ | refine St.WF.set ?_ ?_ _ | refine St.WF.grow ?_ _ _ _ | refine St.WF.keep ?_ ?_ | (first | omega | (simp only [RowOk.lo, nx]; first | done | omega)))), ?_⟩; refine ⟨by omega, ?_, ?_⟩; all_goals (try (first | (simp (disch := first | decide | omega | (simp only [nx]; first | done | omega)) only [go_sem, w1]; first | done | rfl) | rfl)))
      intro j hj hji
      by_cases e : j = i
      · subst e; exact hv
      · exact hs j hj (by omega)
    · have b2 : decide (valH l[i] < valH l[i + 1]) = false := decide_eq_false hv
      (simp (disch := first | decide | omega | (simp only [nx]; first | done | omega)) only [go_sem, b2]; (repeat with_reducible refine aI ?_))
      refine ⟨?_, (by (repeat' first | assumption | exact St.Sub.refl _ | exact RowOk.sub (by assumption) (by assumption) | refine St.Sub.trans ?_ (RowOk.sub (by assumption) (by assumption)) | refine St.Sub.add ?_ ?_ _ | refine St.Sub.set ?_ ?_ ?_ _ | refine St.Sub.keep ?_ ?_ | refine St.WF.leave ?_ _ | refine St.WF.add ?_ _ | refine St.WF.set ?_ ?_ _ | refine St.WF.grow ?_ _ _ _ | refine St.WF.keep ?_ ?_ | (first | omega | (simp only [RowOk.lo, nx]; first | done | omega))))⟩
      rw [rise_at hlt hv]; rfl
  · have b1 : decide (((i + 1 : Nat) : Int) < (l.length : Int)) = false := decide_eq_false (by omega)
    (simp (disch := first | decide | omega | (simp only [nx]; first | done | omega)) only [go_sem, q0, q3, b1]; (repeat with_reducible refine aI ?_))
    refine ⟨?_, (by (repeat' first | assumption | exact St.Sub.refl _ | exact RowOk.sub (by assumption) (by assumption) | refine St.Sub.trans ?_ (RowOk.sub (by assumption) (by assumption)) | refine St.Sub.add ?_ ?_ _ | refine St.Sub.set ?_ ?_ ?_ _ | refine St.Sub.keep ?_ ?_ | refine St.WF.leave ?_ _ | refine St.WF.add ?_ _ | refine St.WF.set ?_ ?_ _ | refine St.WF.grow ?_ _ _ _ | refine St.WF.keep ?_ ?_ | (first | omega | (simp only [RowOk.lo, nx]; first | done | omega))))⟩
    have : riseH l = true := riseH_true.2 fun j hj => hs j hj (by omega)
    rw [this]; rfl
theorem batch_d (n : Nat) (hn : n ≤ 140737488355328) : DPure Tryz.prog 49 [.v (.int .i64 (n : Int))] (.v (.bool (batchN n))) := by
  refine dpure_of_dwp mixed Tryz.func49 rfl (fun _ _ => by kernel_rfl) (rs := [.tmp 2]) rfl (by kernel_rfl) trivial (fun S hS => ?_)
  by_cases h1 : 1 ≤ n
  · have b1 : decide ((n : Int) ≥ 1) = true := decide_eq_true (by omega)
    have b2 : decide ((n : Int) ≤ 8) = decide (n ≤ 8) := decide_eq_decide.2 (by omega)
    (simp (disch := first | decide | omega | (simp only [nx]; first | done | omega)) only [go_sem, b1, b2]; (repeat with_reducible refine aI ?_))
    refine ⟨?_, (by (repeat' first | assumption | exact St.Sub.refl _ | exact RowOk.sub (by assumption) (by assumption) | refine St.Sub.trans ?_ (RowOk.sub (by assumption) (by assumption)) | refine St.Sub.add ?_ ?_ _ | refine St.Sub.set ?_ ?_ ?_ _ | refine St.Sub.keep ?_ ?_ | refine St.WF.leave ?_ _ | refine St.WF.add ?_ _ | refine St.WF.set ?_ ?_ _ | refine St.WF.grow ?_ _ _ _ | refine St.WF.keep ?_ ?_ | (first | omega | (simp only [RowOk.lo, nx]; first | done | omega))))⟩
    rw [batchN, decide_eq_true h1]; rfl
  · have b1 : decide ((n : Int) ≥ 1) = false := decide_eq_false (by omega)
    (simp (disch := first | decide | omega | (simp only [nx]; first | done | omega)) only [go_sem, b1]; (repeat with_reducible refine aI ?_))
    refine ⟨?_, (by (repeat' first | assumption | exact St.Sub.refl _ | exact RowOk.sub (by assumption) (by assumption) | refine St.Sub.trans ?_ (RowOk.sub (by assumption) (by assumption)) | refine St.Sub.add ?_ ?_ _ | refine St.Sub.set ?_ ?_ ?_ _ | refine St.Sub.keep ?_ ?_ | refine St.WF.leave ?_ _ | refine St.WF.add ?_ _ | refine St.WF.set ?_ ?_ _ | refine St.WF.grow ?_ _ _ _ | refine St.WF.keep ?_ ?_ | (first | omega | (simp only [RowOk.lo, nx]; first | done | omega))))⟩
    rw [batchN, decide_eq_false h1]; rfl
theorem entries1_d (b : List UInt8) : DPure Tryz.prog 76 [encB b] (.v (.bool (badE b))) := by
  refine dpure_of_dwp mixed Tryz.func76 rfl (fun _ _ => by kernel_rfl) (rs := [.tmp 2]) rfl (by kernel_rfl) trivial (fun S hS => ?_)
  have e : encB b = .sl .no (b.map bD) := rfl
  rw [e]
  by_cases h1 : b.length = 0
  · have b1 : ((b.length : Int) == 0) = true := by simp [h1]
    (simp (disch := first | decide | omega | (simp only [nx]; first | done | omega)) only [go_sem, b1]; (repeat with_reducible refine aI ?_))
    refine ⟨?_, (by (repeat' first | assumption | exact St.Sub.refl _ | exact RowOk.sub (by assumption) (by assumption) | refine St.Sub.trans ?_ (RowOk.sub (by assumption) (by assumption)) | refine St.Sub.add ?_ ?_ _ | refine St.Sub.set ?_ ?_ ?_ _ | refine St.Sub.keep ?_ ?_ | refine St.WF.leave ?_ _ | refine St.WF.add ?_ _ | refine St.WF.set ?_ ?_ _ | refine St.WF.grow ?_ _ _ _ | refine St.WF.keep ?_ ?_ | (first | omega | (simp only [RowOk.lo, nx]; first | done | omega))))⟩
    rw [badE, decide_eq_true h1]; rfl
  · have b1 : ((b.length : Int) == 0) = false := beq_eq_false_iff_ne.2 (by omega)
    have b2 : decide ((b.length : Int) > 4096) = decide (4096 < b.length) := decide_eq_decide.2 (by omega)
    (simp (disch := first | decide | omega | (simp only [nx]; first | done | omega)) only [go_sem, b1, b2]; (repeat with_reducible refine aI ?_))
    refine ⟨?_, (by (repeat' first | assumption | exact St.Sub.refl _ | exact RowOk.sub (by assumption) (by assumption) | refine St.Sub.trans ?_ (RowOk.sub (by assumption) (by assumption)) | refine St.Sub.add ?_ ?_ _ | refine St.Sub.set ?_ ?_ ?_ _ | refine St.Sub.keep ?_ ?_ | refine St.WF.leave ?_ _ | refine St.WF.add ?_ _ | refine St.WF.set ?_ ?_ _ | refine St.WF.grow ?_ _ _ _ | refine St.WF.keep ?_ ?_ | (first | omega | (simp only [RowOk.lo, nx]; first | done | omega))))⟩
    rw [badE, decide_eq_false h1]; rfl
attribute [local go_sem] cells_encB List.length_singleton List.getD_cons_zero
theorem ixEs_at {S : St} {own : Own} {l : List (List UInt8)} {g : FuncId} {fs cs : List D} (p : (List UInt8) → Bool) (hl : l.length ≤ 1000000) (hc : ∀ x ∈ l, DSt Tryz.prog g (fs ++ [encB x] ++ cs) S (.v (.bool (p x)))) : DAt Tryz.prog 87 [.sl own (l.map encB), .fn (.func g) fs cs] S (.v (.int .i64 (ixOf p l))) := by
  refine dat_of_dwpL mixed Tryz.func87 rfl (fun _ _ => by kernel_rfl) (rs := [.tmp 4]) rfl (by kernel_rfl) (by trivial) (fun hS => ?_)
  (simp (disch := first | decide | omega | (simp only [nx]; first | done | omega)) only [go_sem]; (repeat with_reducible refine aI ?_))
  (refine dloop_st (fun t => List.contains [4, 5, 8, 9, 10, 11, 12, 13, 14, 15, 16, 17, 18] t) (by kernel_rfl) ?_ (l.length) (fun i f => i ≤ l.length ∧ f 8 = .v (.int .i64 (i : Nat)) ∧ (∀ j (h : j < l.length), j < i → p l[j] = false)) ?_ ?_; (exact (by (repeat' first | assumption | refine St.WF.leave ?_ _ | refine St.WF.add ?_ _ | refine St.WF.set ?_ ?_ _ | refine St.WF.grow ?_ _ _ _ | refine St.WF.keep ?_ ?_ | (first | omega | (simp only [RowOk.lo, nx]; first | done | omega))))); (exact ⟨(by omega), (by (first | (simp (disch := first | decide | omega | (simp only [nx]; first | done | omega)) only [go_sem]; first | done | rfl) | rfl)), (fun j _ h => absurd h (by omega))⟩); intro i g tn hn hT hg hI; obtain ⟨le, q8, hs⟩ := hI; have q0 := hg 0 rfl; have q1 := hg 1 rfl; have q7 := hg 7 rfl; simp (disch := first | decide | omega | (simp only [nx]; first | done | omega)) only [go_sem] at q0 q1 q7; clear hg; have hn' := hn; try simp only [add_next, set_next, grow_next, leave_next, drop_next] at hn')
  by_cases hlt : i < l.length
  · have b1 : decide ((i : Int) < (l.length : Int)) = true := decide_eq_true (by omega)
    have w1 : IntKind.i64.wrap ((i : Int) + 1) = ((i + 1 : Nat) : Int) := IntWalk.i64_in _ ⟨by omega, by omega⟩
    (simp (disch := first | decide | omega | (simp only [nx]; first | done | omega)) only [go_sem, q0, q1, q7, q8, b1, hlt]; (repeat with_reducible refine aI ?_))
    refine go_at (hc l[i] (List.getElem_mem _) ⟨tn, S.ob⟩ hn (fun _ _ h => h)) ?_
    cases hp : p l[i] with
    | false =>
      (simp (disch := first | decide | omega | (simp only [nx]; first | done | omega)) only [go_sem, q8, w1]; (repeat with_reducible refine aI ?_))
      refine ⟨by omega, ⟨hn, fun _ _ h => h⟩, by omega, ?_, fun j hj hji => ?_⟩
      · (first | (simp (disch := first | decide | omega | (simp only [nx]; first | done | omega)) only [go_sem, w1]; first | done | rfl) | rfl)
      · by_cases e : j = i
        · subst e; exact hp
        · exact hs j hj (by omega)
    | true =>
      (simp (disch := first | decide | omega | (simp only [nx]; first | done | omega)) only [go_sem]; (repeat with_reducible refine aI ?_))
      refine ⟨?_, ⟨hn, fun _ _ h => h⟩⟩
      rw [ixOf_at hlt hp hs]
      rfl
  · have b1 : decide ((i : Int) < (l.length : Int)) = false := decide_eq_false (by omega)
    (simp (disch := first | decide | omega | (simp only [nx]; first | done | omega)) only [go_sem, q7, q8, b1]; (repeat with_reducible refine aI ?_))
    refine ⟨?_, ⟨hn, fun _ _ h => h⟩⟩
    rw [ixOf_none fun j hj => hs j hj (by omega)]
    rfl
theorem anyEs_at {S : St} {own : Own} {l : List (List UInt8)} {g : FuncId} {fs cs : List D} (p : List UInt8 → Bool) (hl : l.length ≤ 1000000) (hc : ∀ x ∈ l, DSt Tryz.prog g (fs ++ [encB x] ++ cs) S (.v (.bool (p x)))) : DAt Tryz.prog 75 [.sl own (l.map encB), .fn (.func g) fs cs] S (.v (.bool (l.any p))) := by
  refine dat_of_dwpL mixed Tryz.func75 rfl (fun _ _ => by kernel_rfl) (rs := [.tmp 4]) rfl (by kernel_rfl) (by trivial) (fun hS => ?_)
  (simp (disch := first | decide | omega | (simp only [nx]; first | done | omega)) only [go_sem]; (repeat with_reducible refine aI ?_))
  refine go_at (ixEs_at p hl hc) ?_
  (simp (disch := first | decide | omega | (simp only [nx]; first | done | omega)) only [go_sem, ixOf_any]; (repeat with_reducible refine aI ?_))
  refine ⟨?_, (by (repeat' first | assumption | exact St.Sub.refl _ | exact RowOk.sub (by assumption) (by assumption) | refine St.Sub.trans ?_ (RowOk.sub (by assumption) (by assumption)) | refine St.Sub.add ?_ ?_ _ | refine St.Sub.set ?_ ?_ ?_ _ | refine St.Sub.keep ?_ ?_ | refine St.WF.leave ?_ _ | refine St.WF.add ?_ _ | refine St.WF.set ?_ ?_ _ | refine St.WF.grow ?_ _ _ _ | refine St.WF.keep ?_ ?_ | (first | omega | (simp only [RowOk.lo, nx]; first | done | omega))))⟩
  rfl
theorem entries_d (own : Own) (l : List (List UInt8)) (hl : l.length ≤ 1000000) : DPure Tryz.prog 50 [.sl own (l.map encB)] (.v (.bool (!(l.any badE)))) := fun S => by
  refine dat_of_dwpL mixed Tryz.func50 rfl (fun _ _ => by kernel_rfl) (rs := [.tmp 2]) rfl (by kernel_rfl) (by trivial) (fun hS => ?_)
  (simp (disch := first | decide | omega | (simp only [nx]; first | done | omega)) only [go_sem]; (repeat with_reducible refine aI ?_))
  refine go_at (anyEs_at badE hl fun x _ => (entries1_d x).st) ?_
  (simp (disch := first | decide | omega | (simp only [nx]; first | done | omega)) only [go_sem]; (repeat with_reducible refine aI ?_))
  refine ⟨?_, (by (repeat' first | assumption | exact St.Sub.refl _ | exact RowOk.sub (by assumption) (by assumption) | refine St.Sub.trans ?_ (RowOk.sub (by assumption) (by assumption)) | refine St.Sub.add ?_ ?_ _ | refine St.Sub.set ?_ ?_ ?_ _ | refine St.Sub.keep ?_ ?_ | refine St.WF.leave ?_ _ | refine St.WF.add ?_ _ | refine St.WF.set ?_ ?_ _ | refine St.WF.grow ?_ _ _ _ | refine St.WF.keep ?_ ?_ | (first | omega | (simp only [RowOk.lo, nx]; first | done | omega))))⟩
  rfl
theorem right25_d (m : DMs) (hi : m.ids.length ≤ 1000000) (he : m.es.length ≤ 1000000) : DPure Tryz.prog 15 [encMs m] (.v (.bool (rightM m))) := by
  refine dpure_of_dwp mixed Tryz.func15 rfl (fun _ _ => by kernel_rfl) (rs := [.tmp 2]) rfl (by kernel_rfl) trivial (fun S hS => ?_)
  have fin : ∀ {v : Bool}, v = rightM m → (D.v (.bool v)).frz = D.v (.bool (rightM m)) := fun h => by rw [h]; rfl
  (simp (disch := first | decide | omega | (simp only [nx]; first | done | omega)) only [go_sem]; (repeat with_reducible refine aI ?_))
  cases hr : m.r with
  | true =>
    have ho : otherM m = true := by rw [otherM, hr]; rfl
    (simp (disch := first | decide | omega | (simp only [nx]; first | done | omega)) only [go_sem]; (repeat with_reducible refine aI ?_))
    by_cases k1 : m.k = 1
    · have b1 : (m.k == 1) = true := by simp [k1]
      by_cases hl : m.ids.length ≤ 64
      · have b2 : decide ((m.ids.length : Int) ≤ 64) = true := decide_eq_true (by omega)
        (simp (disch := first | decide | omega | (simp only [nx]; first | done | omega)) only [go_sem, b1, b2]; (repeat with_reducible refine aI ?_))
        refine DCalls.of_pure (rising_d .no m.ids hi) ?_
        cases hrs : riseH m.ids with
        | true =>
          have b3 : ((m.es.length : Int) == 0) = decide (m.es = []) := lenZ m.es
          (simp (disch := first | decide | omega | (simp only [nx]; first | done | omega)) only [go_sem, b3]; (repeat with_reducible refine aI ?_))
          refine ⟨?_, (by (repeat' first | assumption | exact St.Sub.refl _ | exact RowOk.sub (by assumption) (by assumption) | refine St.Sub.trans ?_ (RowOk.sub (by assumption) (by assumption)) | refine St.Sub.add ?_ ?_ _ | refine St.Sub.set ?_ ?_ ?_ _ | refine St.Sub.keep ?_ ?_ | refine St.WF.leave ?_ _ | refine St.WF.add ?_ _ | refine St.WF.set ?_ ?_ _ | refine St.WF.grow ?_ _ _ _ | refine St.WF.keep ?_ ?_ | (first | omega | (simp only [RowOk.lo, nx]; first | done | omega))))⟩
          exact fin (by rw [rightM, if_pos k1, hrs, decide_eq_true hl]; rfl)
        | false =>
          (simp (disch := first | decide | omega | (simp only [nx]; first | done | omega)) only [go_sem]; (repeat with_reducible refine aI ?_))
          refine ⟨?_, (by (repeat' first | assumption | exact St.Sub.refl _ | exact RowOk.sub (by assumption) (by assumption) | refine St.Sub.trans ?_ (RowOk.sub (by assumption) (by assumption)) | refine St.Sub.add ?_ ?_ _ | refine St.Sub.set ?_ ?_ ?_ _ | refine St.Sub.keep ?_ ?_ | refine St.WF.leave ?_ _ | refine St.WF.add ?_ _ | refine St.WF.set ?_ ?_ _ | refine St.WF.grow ?_ _ _ _ | refine St.WF.keep ?_ ?_ | (first | omega | (simp only [RowOk.lo, nx]; first | done | omega))))⟩
          exact fin (by rw [rightM, if_pos k1, hrs, decide_eq_true hl]; rfl)
      · have b2 : decide ((m.ids.length : Int) ≤ 64) = false := decide_eq_false (by omega)
        (simp (disch := first | decide | omega | (simp only [nx]; first | done | omega)) only [go_sem, b1, b2]; (repeat with_reducible refine aI ?_))
        refine ⟨?_, (by (repeat' first | assumption | exact St.Sub.refl _ | exact RowOk.sub (by assumption) (by assumption) | refine St.Sub.trans ?_ (RowOk.sub (by assumption) (by assumption)) | refine St.Sub.add ?_ ?_ _ | refine St.Sub.set ?_ ?_ ?_ _ | refine St.Sub.keep ?_ ?_ | refine St.WF.leave ?_ _ | refine St.WF.add ?_ _ | refine St.WF.set ?_ ?_ _ | refine St.WF.grow ?_ _ _ _ | refine St.WF.keep ?_ ?_ | (first | omega | (simp only [RowOk.lo, nx]; first | done | omega))))⟩
        exact fin (by rw [rightM, if_pos k1, decide_eq_false hl]; rfl)
    · have b1 : (m.k == 1) = false := by simp [k1]
      by_cases k2 : m.k = 2
      · have b2 : (m.k == 2) = true := by simp [k2]
        (simp (disch := first | decide | omega | (simp only [nx]; first | done | omega)) only [go_sem, b1, b2]; (repeat with_reducible refine aI ?_))
        refine ⟨?_, (by (repeat' first | assumption | exact St.Sub.refl _ | exact RowOk.sub (by assumption) (by assumption) | refine St.Sub.trans ?_ (RowOk.sub (by assumption) (by assumption)) | refine St.Sub.add ?_ ?_ _ | refine St.Sub.set ?_ ?_ ?_ _ | refine St.Sub.keep ?_ ?_ | refine St.WF.leave ?_ _ | refine St.WF.add ?_ _ | refine St.WF.set ?_ ?_ _ | refine St.WF.grow ?_ _ _ _ | refine St.WF.keep ?_ ?_ | (first | omega | (simp only [RowOk.lo, nx]; first | done | omega))))⟩
        exact fin (by rw [rightM, if_neg k1, if_pos k2, ho]; rfl)
      · have b2 : (m.k == 2) = false := by simp [k2]
        by_cases k3 : m.k = 3
        · have b3 : (m.k == 3) = true := by simp [k3]
          (simp (disch := first | decide | omega | (simp only [nx]; first | done | omega)) only [go_sem, b1, b2, b3]; (repeat with_reducible refine aI ?_))
          refine ⟨?_, (by (repeat' first | assumption | exact St.Sub.refl _ | exact RowOk.sub (by assumption) (by assumption) | refine St.Sub.trans ?_ (RowOk.sub (by assumption) (by assumption)) | refine St.Sub.add ?_ ?_ _ | refine St.Sub.set ?_ ?_ ?_ _ | refine St.Sub.keep ?_ ?_ | refine St.WF.leave ?_ _ | refine St.WF.add ?_ _ | refine St.WF.set ?_ ?_ _ | refine St.WF.grow ?_ _ _ _ | refine St.WF.keep ?_ ?_ | (first | omega | (simp only [RowOk.lo, nx]; first | done | omega))))⟩
          exact fin (by rw [rightM, if_neg k1, if_neg k2, if_pos k3, ho]; rfl)
        · have b3 : (m.k == 3) = false := by simp [k3]
          (simp (disch := first | decide | omega | (simp only [nx]; first | done | omega)) only [go_sem, b1, b2, b3]; (repeat with_reducible refine aI ?_))
          refine ⟨?_, (by (repeat' first | assumption | exact St.Sub.refl _ | exact RowOk.sub (by assumption) (by assumption) | refine St.Sub.trans ?_ (RowOk.sub (by assumption) (by assumption)) | refine St.Sub.add ?_ ?_ _ | refine St.Sub.set ?_ ?_ ?_ _ | refine St.Sub.keep ?_ ?_ | refine St.WF.leave ?_ _ | refine St.WF.add ?_ _ | refine St.WF.set ?_ ?_ _ | refine St.WF.grow ?_ _ _ _ | refine St.WF.keep ?_ ?_ | (first | omega | (simp only [RowOk.lo, nx]; first | done | omega))))⟩
          exact fin (by rw [rightM, if_neg k1, if_neg k2, if_neg k3])
  | false =>
    by_cases hz : m.f = zF
    · have ho : otherM m = false := by rw [otherM, hr, decide_eq_true hz]; rfl
      have z0 : decide (m.f = zF) = true := decide_eq_true hz
      (simp (disch := first | decide | omega | (simp only [nx]; first | done | omega)) only [go_sem, placeF, agg_zF, z0]; (repeat with_reducible refine aI ?_))
      by_cases k1 : m.k = 1
      · have b1 : (m.k == 1) = true := by simp [k1]
        by_cases hl : m.ids.length ≤ 64
        · have b2 : decide ((m.ids.length : Int) ≤ 64) = true := decide_eq_true (by omega)
          (simp (disch := first | decide | omega | (simp only [nx]; first | done | omega)) only [go_sem, b1, b2]; (repeat with_reducible refine aI ?_))
          refine DCalls.of_pure (rising_d .no m.ids hi) ?_
          cases hrs : riseH m.ids with
          | true =>
            have b3 : ((m.es.length : Int) == 0) = decide (m.es = []) := lenZ m.es
            (simp (disch := first | decide | omega | (simp only [nx]; first | done | omega)) only [go_sem, b3]; (repeat with_reducible refine aI ?_))
            refine ⟨?_, (by (repeat' first | assumption | exact St.Sub.refl _ | exact RowOk.sub (by assumption) (by assumption) | refine St.Sub.trans ?_ (RowOk.sub (by assumption) (by assumption)) | refine St.Sub.add ?_ ?_ _ | refine St.Sub.set ?_ ?_ ?_ _ | refine St.Sub.keep ?_ ?_ | refine St.WF.leave ?_ _ | refine St.WF.add ?_ _ | refine St.WF.set ?_ ?_ _ | refine St.WF.grow ?_ _ _ _ | refine St.WF.keep ?_ ?_ | (first | omega | (simp only [RowOk.lo, nx]; first | done | omega))))⟩
            exact fin (by rw [rightM, if_pos k1, hrs, decide_eq_true hl]; rfl)
          | false =>
            (simp (disch := first | decide | omega | (simp only [nx]; first | done | omega)) only [go_sem]; (repeat with_reducible refine aI ?_))
            refine ⟨?_, (by (repeat' first | assumption | exact St.Sub.refl _ | exact RowOk.sub (by assumption) (by assumption) | refine St.Sub.trans ?_ (RowOk.sub (by assumption) (by assumption)) | refine St.Sub.add ?_ ?_ _ | refine St.Sub.set ?_ ?_ ?_ _ | refine St.Sub.keep ?_ ?_ | refine St.WF.leave ?_ _ | refine St.WF.add ?_ _ | refine St.WF.set ?_ ?_ _ | refine St.WF.grow ?_ _ _ _ | refine St.WF.keep ?_ ?_ | (first | omega | (simp only [RowOk.lo, nx]; first | done | omega))))⟩
            exact fin (by rw [rightM, if_pos k1, hrs, decide_eq_true hl]; rfl)
        · have b2 : decide ((m.ids.length : Int) ≤ 64) = false := decide_eq_false (by omega)
          (simp (disch := first | decide | omega | (simp only [nx]; first | done | omega)) only [go_sem, b1, b2]; (repeat with_reducible refine aI ?_))
          refine ⟨?_, (by (repeat' first | assumption | exact St.Sub.refl _ | exact RowOk.sub (by assumption) (by assumption) | refine St.Sub.trans ?_ (RowOk.sub (by assumption) (by assumption)) | refine St.Sub.add ?_ ?_ _ | refine St.Sub.set ?_ ?_ ?_ _ | refine St.Sub.keep ?_ ?_ | refine St.WF.leave ?_ _ | refine St.WF.add ?_ _ | refine St.WF.set ?_ ?_ _ | refine St.WF.grow ?_ _ _ _ | refine St.WF.keep ?_ ?_ | (first | omega | (simp only [RowOk.lo, nx]; first | done | omega))))⟩
          exact fin (by rw [rightM, if_pos k1, decide_eq_false hl]; rfl)
      · have b1 : (m.k == 1) = false := by simp [k1]
        by_cases k2 : m.k = 2
        · have b2 : (m.k == 2) = true := by simp [k2]
          (simp (disch := first | decide | omega | (simp only [nx]; first | done | omega)) only [go_sem, b1, b2]; (repeat with_reducible refine aI ?_))
          refine DCalls.of_pure (batch_d m.ids.length (by omega)) ?_
          cases hbt : batchN m.ids.length with
          | true =>
            (simp (disch := first | decide | omega | (simp only [nx]; first | done | omega)) only [go_sem]; (repeat with_reducible refine aI ?_))
            refine DCalls.of_pure (rising_d .no m.ids hi) ?_
            cases hrs : riseH m.ids with
            | true =>
              have b4 : ((m.es.length : Int) == 0) = decide (m.es = []) := lenZ m.es
              (simp (disch := first | decide | omega | (simp only [nx]; first | done | omega)) only [go_sem, b4]; (repeat with_reducible refine aI ?_))
              refine ⟨?_, (by (repeat' first | assumption | exact St.Sub.refl _ | exact RowOk.sub (by assumption) (by assumption) | refine St.Sub.trans ?_ (RowOk.sub (by assumption) (by assumption)) | refine St.Sub.add ?_ ?_ _ | refine St.Sub.set ?_ ?_ ?_ _ | refine St.Sub.keep ?_ ?_ | refine St.WF.leave ?_ _ | refine St.WF.add ?_ _ | refine St.WF.set ?_ ?_ _ | refine St.WF.grow ?_ _ _ _ | refine St.WF.keep ?_ ?_ | (first | omega | (simp only [RowOk.lo, nx]; first | done | omega))))⟩
              exact fin (by rw [rightM, if_neg k1, if_pos k2, ho, hbt, hrs]; rfl)
            | false =>
              (simp (disch := first | decide | omega | (simp only [nx]; first | done | omega)) only [go_sem]; (repeat with_reducible refine aI ?_))
              refine ⟨?_, (by (repeat' first | assumption | exact St.Sub.refl _ | exact RowOk.sub (by assumption) (by assumption) | refine St.Sub.trans ?_ (RowOk.sub (by assumption) (by assumption)) | refine St.Sub.add ?_ ?_ _ | refine St.Sub.set ?_ ?_ ?_ _ | refine St.Sub.keep ?_ ?_ | refine St.WF.leave ?_ _ | refine St.WF.add ?_ _ | refine St.WF.set ?_ ?_ _ | refine St.WF.grow ?_ _ _ _ | refine St.WF.keep ?_ ?_ | (first | omega | (simp only [RowOk.lo, nx]; first | done | omega))))⟩
              exact fin (by rw [rightM, if_neg k1, if_pos k2, ho, hbt, hrs]; rfl)
          | false =>
            (simp (disch := first | decide | omega | (simp only [nx]; first | done | omega)) only [go_sem]; (repeat with_reducible refine aI ?_))
            refine ⟨?_, (by (repeat' first | assumption | exact St.Sub.refl _ | exact RowOk.sub (by assumption) (by assumption) | refine St.Sub.trans ?_ (RowOk.sub (by assumption) (by assumption)) | refine St.Sub.add ?_ ?_ _ | refine St.Sub.set ?_ ?_ ?_ _ | refine St.Sub.keep ?_ ?_ | refine St.WF.leave ?_ _ | refine St.WF.add ?_ _ | refine St.WF.set ?_ ?_ _ | refine St.WF.grow ?_ _ _ _ | refine St.WF.keep ?_ ?_ | (first | omega | (simp only [RowOk.lo, nx]; first | done | omega))))⟩
            exact fin (by rw [rightM, if_neg k1, if_pos k2, ho, hbt]; rfl)
        · have b2 : (m.k == 2) = false := by simp [k2]
          by_cases k3 : m.k = 3
          · have b3 : (m.k == 3) = true := by simp [k3]
            by_cases hi0 : m.ids = []
            · have b4 : ((m.ids.length : Int) == 0) = true := by rw [lenZ, decide_eq_true hi0]
              (simp (disch := first | decide | omega | (simp only [nx]; first | done | omega)) only [go_sem, b1, b2, b3, b4]; (repeat with_reducible refine aI ?_))
              refine DCalls.of_pure (batch_d m.es.length (by omega)) ?_
              cases hbt : batchN m.es.length with
              | true =>
                (simp (disch := first | decide | omega | (simp only [nx]; first | done | omega)) only [go_sem]; (repeat with_reducible refine aI ?_))
                refine DCalls.of_pure (entries_d .no m.es he) ?_
                (simp (disch := first | decide | omega | (simp only [nx]; first | done | omega)) only [go_sem]; (repeat with_reducible refine aI ?_))
                refine ⟨?_, (by (repeat' first | assumption | exact St.Sub.refl _ | exact RowOk.sub (by assumption) (by assumption) | refine St.Sub.trans ?_ (RowOk.sub (by assumption) (by assumption)) | refine St.Sub.add ?_ ?_ _ | refine St.Sub.set ?_ ?_ ?_ _ | refine St.Sub.keep ?_ ?_ | refine St.WF.leave ?_ _ | refine St.WF.add ?_ _ | refine St.WF.set ?_ ?_ _ | refine St.WF.grow ?_ _ _ _ | refine St.WF.keep ?_ ?_ | (first | omega | (simp only [RowOk.lo, nx]; first | done | omega))))⟩
                exact fin (by rw [rightM, if_neg k1, if_neg k2, if_pos k3, ho, hbt, decide_eq_true hi0]; simp)
              | false =>
                (simp (disch := first | decide | omega | (simp only [nx]; first | done | omega)) only [go_sem]; (repeat with_reducible refine aI ?_))
                refine ⟨?_, (by (repeat' first | assumption | exact St.Sub.refl _ | exact RowOk.sub (by assumption) (by assumption) | refine St.Sub.trans ?_ (RowOk.sub (by assumption) (by assumption)) | refine St.Sub.add ?_ ?_ _ | refine St.Sub.set ?_ ?_ ?_ _ | refine St.Sub.keep ?_ ?_ | refine St.WF.leave ?_ _ | refine St.WF.add ?_ _ | refine St.WF.set ?_ ?_ _ | refine St.WF.grow ?_ _ _ _ | refine St.WF.keep ?_ ?_ | (first | omega | (simp only [RowOk.lo, nx]; first | done | omega))))⟩
                exact fin (by rw [rightM, if_neg k1, if_neg k2, if_pos k3, ho, hbt, decide_eq_true hi0]; rfl)
            · have b4 : ((m.ids.length : Int) == 0) = false := by rw [lenZ, decide_eq_false hi0]
              (simp (disch := first | decide | omega | (simp only [nx]; first | done | omega)) only [go_sem, b1, b2, b3, b4]; (repeat with_reducible refine aI ?_))
              refine ⟨?_, (by (repeat' first | assumption | exact St.Sub.refl _ | exact RowOk.sub (by assumption) (by assumption) | refine St.Sub.trans ?_ (RowOk.sub (by assumption) (by assumption)) | refine St.Sub.add ?_ ?_ _ | refine St.Sub.set ?_ ?_ ?_ _ | refine St.Sub.keep ?_ ?_ | refine St.WF.leave ?_ _ | refine St.WF.add ?_ _ | refine St.WF.set ?_ ?_ _ | refine St.WF.grow ?_ _ _ _ | refine St.WF.keep ?_ ?_ | (first | omega | (simp only [RowOk.lo, nx]; first | done | omega))))⟩
              exact fin (by rw [rightM, if_neg k1, if_neg k2, if_pos k3, ho, decide_eq_false hi0]; rfl)
          · have b3 : (m.k == 3) = false := by simp [k3]
            (simp (disch := first | decide | omega | (simp only [nx]; first | done | omega)) only [go_sem, b1, b2, b3]; (repeat with_reducible refine aI ?_))
            refine ⟨?_, (by (repeat' first | assumption | exact St.Sub.refl _ | exact RowOk.sub (by assumption) (by assumption) | refine St.Sub.trans ?_ (RowOk.sub (by assumption) (by assumption)) | refine St.Sub.add ?_ ?_ _ | refine St.Sub.set ?_ ?_ ?_ _ | refine St.Sub.keep ?_ ?_ | refine St.WF.leave ?_ _ | refine St.WF.add ?_ _ | refine St.WF.set ?_ ?_ _ | refine St.WF.grow ?_ _ _ _ | refine St.WF.keep ?_ ?_ | (first | omega | (simp only [RowOk.lo, nx]; first | done | omega))))⟩
            exact fin (by rw [rightM, if_neg k1, if_neg k2, if_neg k3])
    · have ho : otherM m = true := by rw [otherM, hr, decide_eq_false hz]; rfl
      have z0 : decide (m.f = zF) = false := decide_eq_false hz
      (simp (disch := first | decide | omega | (simp only [nx]; first | done | omega)) only [go_sem, placeF, agg_zF, z0]; (repeat with_reducible refine aI ?_))
      by_cases k1 : m.k = 1
      · have b1 : (m.k == 1) = true := by simp [k1]
        by_cases hl : m.ids.length ≤ 64
        · have b2 : decide ((m.ids.length : Int) ≤ 64) = true := decide_eq_true (by omega)
          (simp (disch := first | decide | omega | (simp only [nx]; first | done | omega)) only [go_sem, b1, b2]; (repeat with_reducible refine aI ?_))
          refine DCalls.of_pure (rising_d .no m.ids hi) ?_
          cases hrs : riseH m.ids with
          | true =>
            have b3 : ((m.es.length : Int) == 0) = decide (m.es = []) := lenZ m.es
            (simp (disch := first | decide | omega | (simp only [nx]; first | done | omega)) only [go_sem, b3]; (repeat with_reducible refine aI ?_))
            refine ⟨?_, (by (repeat' first | assumption | exact St.Sub.refl _ | exact RowOk.sub (by assumption) (by assumption) | refine St.Sub.trans ?_ (RowOk.sub (by assumption) (by assumption)) | refine St.Sub.add ?_ ?_ _ | refine St.Sub.set ?_ ?_ ?_ _ | refine St.Sub.keep ?_ ?_ | refine St.WF.leave ?_ _ | refine St.WF.add ?_ _ | refine St.WF.set ?_ ?_ _ | refine St.WF.grow ?_ _ _ _ | refine St.WF.keep ?_ ?_ | (first | omega | (simp only [RowOk.lo, nx]; first | done | omega))))⟩
            exact fin (by rw [rightM, if_pos k1, hrs, decide_eq_true hl]; rfl)
          | false =>
            (simp (disch := first | decide | omega | (simp only [nx]; first | done | omega)) only [go_sem]; (repeat with_reducible refine aI ?_))
            refine ⟨?_, (by (repeat' first | assumption | exact St.Sub.refl _ | exact RowOk.sub (by assumption) (by assumption) | refine St.Sub.trans ?_ (RowOk.sub (by assumption) (by assumption)) | refine St.Sub.add ?_ ?_ _ | refine St.Sub.set ?_ ?_ ?_ _ | refine St.Sub.keep ?_ ?_ | refine St.WF.leave ?_ _ | refine St.WF.add ?_ _ | refine St.WF.set ?_ ?_ _ | refine St.WF.grow ?_ _ _ _ | refine St.WF.keep ?_ ?_ | (first | omega | (simp only [RowOk.lo, nx]; first | done | omega))))⟩
            exact fin (by rw [rightM, if_pos k1, hrs, decide_eq_true hl]; rfl)
        · have b2 : decide ((m.ids.length : Int) ≤ 64) = false := decide_eq_false (by omega)
          (simp (disch := first | decide | omega | (simp only [nx]; first | done | omega)) only [go_sem, b1, b2]; (repeat with_reducible refine aI ?_))
          refine ⟨?_, (by (repeat' first | assumption | exact St.Sub.refl _ | exact RowOk.sub (by assumption) (by assumption) | refine St.Sub.trans ?_ (RowOk.sub (by assumption) (by assumption)) | refine St.Sub.add ?_ ?_ _ | refine St.Sub.set ?_ ?_ ?_ _ | refine St.Sub.keep ?_ ?_ | refine St.WF.leave ?_ _ | refine St.WF.add ?_ _ | refine St.WF.set ?_ ?_ _ | refine St.WF.grow ?_ _ _ _ | refine St.WF.keep ?_ ?_ | (first | omega | (simp only [RowOk.lo, nx]; first | done | omega))))⟩
          exact fin (by rw [rightM, if_pos k1, decide_eq_false hl]; rfl)
      · have b1 : (m.k == 1) = false := by simp [k1]
        by_cases k2 : m.k = 2
        · have b2 : (m.k == 2) = true := by simp [k2]
          (simp (disch := first | decide | omega | (simp only [nx]; first | done | omega)) only [go_sem, b1, b2]; (repeat with_reducible refine aI ?_))
          refine ⟨?_, (by (repeat' first | assumption | exact St.Sub.refl _ | exact RowOk.sub (by assumption) (by assumption) | refine St.Sub.trans ?_ (RowOk.sub (by assumption) (by assumption)) | refine St.Sub.add ?_ ?_ _ | refine St.Sub.set ?_ ?_ ?_ _ | refine St.Sub.keep ?_ ?_ | refine St.WF.leave ?_ _ | refine St.WF.add ?_ _ | refine St.WF.set ?_ ?_ _ | refine St.WF.grow ?_ _ _ _ | refine St.WF.keep ?_ ?_ | (first | omega | (simp only [RowOk.lo, nx]; first | done | omega))))⟩
          exact fin (by rw [rightM, if_neg k1, if_pos k2, ho]; rfl)
        · have b2 : (m.k == 2) = false := by simp [k2]
          by_cases k3 : m.k = 3
          · have b3 : (m.k == 3) = true := by simp [k3]
            (simp (disch := first | decide | omega | (simp only [nx]; first | done | omega)) only [go_sem, b1, b2, b3]; (repeat with_reducible refine aI ?_))
            refine ⟨?_, (by (repeat' first | assumption | exact St.Sub.refl _ | exact RowOk.sub (by assumption) (by assumption) | refine St.Sub.trans ?_ (RowOk.sub (by assumption) (by assumption)) | refine St.Sub.add ?_ ?_ _ | refine St.Sub.set ?_ ?_ ?_ _ | refine St.Sub.keep ?_ ?_ | refine St.WF.leave ?_ _ | refine St.WF.add ?_ _ | refine St.WF.set ?_ ?_ _ | refine St.WF.grow ?_ _ _ _ | refine St.WF.keep ?_ ?_ | (first | omega | (simp only [RowOk.lo, nx]; first | done | omega))))⟩
            exact fin (by rw [rightM, if_neg k1, if_neg k2, if_pos k3, ho]; rfl)
          · have b3 : (m.k == 3) = false := by simp [k3]
            (simp (disch := first | decide | omega | (simp only [nx]; first | done | omega)) only [go_sem, b1, b2, b3]; (repeat with_reducible refine aI ?_))
            refine ⟨?_, (by (repeat' first | assumption | exact St.Sub.refl _ | exact RowOk.sub (by assumption) (by assumption) | refine St.Sub.trans ?_ (RowOk.sub (by assumption) (by assumption)) | refine St.Sub.add ?_ ?_ _ | refine St.Sub.set ?_ ?_ ?_ _ | refine St.Sub.keep ?_ ?_ | refine St.WF.leave ?_ _ | refine St.WF.add ?_ _ | refine St.WF.set ?_ ?_ _ | refine St.WF.grow ?_ _ _ _ | refine St.WF.keep ?_ ?_ | (first | omega | (simp only [RowOk.lo, nx]; first | done | omega))))⟩
            exact fin (by rw [rightM, if_neg k1, if_neg k2, if_neg k3])
end
end Go.Proofs.YtonncfminojejaaGreatDoor

namespace Go.Proofs.YtonncfminojejaaGreatDoor
open Go.RowKit

/-! ### What is shown of code stands in a round's frame too -/
def noDefer (o : Oper) : Bool := match o.op with
  | .defer _ => false
  | _ => true
theorem noDefer_spec {o : Oper} (h : noDefer o = true) : ∀ c, o.op ≠ .defer c := fun c e => by rw [noDefer, e] at h; cases h
def plainC : Code → Bool
  | .region _ ops _ => ops.all noDefer
  | .seq x y => plainC x && plainC y
  | .cond _ x y => plainC x && plainC y
  | .block _ c => plainC c
  | .skip => true
  | .label _ => true
  | .exit _ => true
  | _ => false
section
variable {P : Program} {l n : Nat} {Q : Exit → Act → World → Prop} {ops : Array Oper} {md : Region.Mode}
theorem rowsIn_wide {row : String} {args : Array Value} {w : World} {R : Value → World → Prop} (h : Rows P row args w R) : RowsIn (Fence.wide.inRound l) n P row args w R :=
  fun c cs _ => let ⟨v, w', r, s⟩ := h c cs; ⟨v, w', r, stepsIn_wide.2 s⟩
theorem callsIn_round {f : FuncId} {args : Array Value} {w : World} {R : Ending → World → Prop} (h : Calls P f args w R) : CallsIn (Fence.wide.inRound l) n P f args w R := (callsIn_wide (n := n)).2 h
theorem uponIn_of {o : Oper} {a : Act} {next : Act → World → Prop} {r : Result Next} (h : o.upon P a next Q r) : o.uponIn (Fence.wide.inRound l) n P a next Q r := by
  cases r with
  | ok x w' =>
    cases x <;> simp only [Oper.upon, Oper.uponIn] at h ⊢ <;>
      first
        | exact h
        | exact ⟨(fun e => by cases e), callsIn_round (h.mono fun e w'' he => by cases e <;> exact he)⟩
        | exact ⟨(fun e => by cases e), rowsIn_wide h⟩
  | halt x w' => cases x <;> simp only [Oper.upon, Oper.uponIn] at h ⊢ <;> exact h
theorem opIn_of {o : Oper} {a : Act} {w : World} {next : Act → World → Prop} (hd : noDefer o = true) (hQ : ¬ LetsOut Q) (h : o.wp P a w next Q ∨ (o.asks P a w ∧ LetsOut Q)) : o.wpIn (Fence.wide.inRound l) n P a w next Q := by
  rcases h with h | h
  · refine ⟨fun _ _ => trivial, ?_⟩
    rw [Oper.semAt_eq _ _ _ (noDefer_spec hd)]
    exact uponIn_of h
  · exact absurd h.2 hQ
theorem anyIn_of (hd : ∀ (j : Nat) (o : Oper), ops[j]? = some o → noDefer o = true) (hQ : ¬ LetsOut Q) : ∀ (fuel : Nat) (L : Array Bool) (a : Act) (w : World), wpAny P md ops Q fuel L a w → wpAnyIn (Fence.wide.inRound l) n P md ops Q fuel L a w
  | 0, _, _, _, h => h
  | fuel + 1, L, a, w, h => by
    refine ⟨h.1, fun i hi => ?_⟩
    have h2 := h.2 i hi
    have ih := fun a w => anyIn_of hd hQ fuel (L.setIfInBounds i true) a w
    unfold wpOp at h2
    unfold wpOpIn
    cases ho : ops[i]? with
    | none => rw [ho] at h2; exact ih _ _ h2
    | some o =>
      rw [ho] at h2
      simp only at h2 ⊢
      split
      · rename_i hw
        rw [if_pos hw] at h2
        exact opIn_of (hd i o ho) hQ (h2.imp (Oper.wp_mono ih) id)
      · rename_i hw
        rw [if_neg hw] at h2
        exact ⟨fun _ _ => trivial, ih _ _ h2⟩
theorem listIn_of (hQ : ¬ LetsOut Q) : ∀ (r : List Oper) (a : Act) (w : World), (∀ o ∈ r, noDefer o = true) → wpList P ops Q r a w → wpListIn (Fence.wide.inRound l) n P ops Q r a w
  | [], _, _, _, h => h
  | o :: r, a, w, hd, h => by
    have ih := fun a w => listIn_of hQ r a w fun o ho => hd o (List.mem_cons_of_mem _ ho)
    unfold wpList at h
    unfold wpListIn
    split
    · rename_i hw
      rw [if_pos hw] at h
      exact opIn_of (hd o (List.mem_cons_self ..)) hQ (h.imp (Oper.wp_mono ih) id)
    · rename_i hw
      rw [if_neg hw] at h
      exact ⟨fun _ _ => trivial, ih _ _ h⟩
theorem any_whole {l : List Oper} (n : Nat) {Q : Exit → Act → World → Prop} {a : Act} {w : World} (hB : heldTailB l n = true)
    (h : wpAny P .any (l.take n).toArray (Exit.then (fun a w => wpList P l.toArray Q (l.drop n) a w) Q) (l.take n).toArray.size (Array.replicate (l.take n).toArray.size false) a w) : wpAny P .any l.toArray Q l.toArray.size (Array.replicate l.toArray.size false) a w := by
  simp only [heldTailB, Bool.and_eq_true, decide_eq_true_eq] at hB
  obtain ⟨⟨⟨⟨hn, hs⟩, hc⟩, hb⟩, hq⟩ := hB
  have htl : (l.take n).toArray.size = n := by simp; omega
  rw [htl] at h
  have e : Array.replicate l.toArray.size false = Array.replicate n false ++ Array.replicate (l.length - n) false := by
    rw [Array.replicate_append_replicate]; congr 1; simp; omega
  have inv0 : HeadInv .any l.toArray n (Array.replicate n false ++ Array.replicate (l.length - n) false) := by
    rw [← e]
    exact ⟨by simp, fun j oj _ hl => (by rw [getD_replicate_false] at hl; cases hl), fun t _ ht => getD_in (by simpa using ht) (getD_replicate_false _ _)⟩
  have := wpAny_tail hn hs hc hb hq n (Array.replicate n false) a w inv0 (by simp) h
  rw [e]
  rw [show n + (l.length - n) = l.toArray.size by simp; omega] at this
  exact this
end
section
variable {P : Program} {base : Nat} {S : St} {η : Names} {w : World} {f : Fm} {a : Act}
theorem ddraw_any_sound {l : List Oper} {Q : Fm → St → Prop} {Q' : Exit → Act → World → Prop} (hok : ∀ o ∈ l, operOk a.tmps.size l.toArray o = true) (hM : Mem P base S η w) (hf : RepF P w η (Fix P S η) f a) (h : ddraw P l Q f S)
    (hq : ∀ f' S' η' w' a', Q f' S' → Goes P base S η w S' η' w' → RepF P w' η' (Fix P S' η') f' a' → a'.tmps.size = a.tmps.size → a'.defers = a.defers → Q' .normal a' w') : wpAny P .any l.toArray Q' l.toArray.size (Array.replicate l.toArray.size false) a w.drew := by
  have hokn : ∀ n, ∀ (j : Nat) (o : Oper), (l.take n).toArray[j]? = some o → operOk a.tmps.size (l.take n).toArray o = true := fun n j o ho => operOk_take (hok o (by
    have := List.mem_of_getElem? (show (l.take n)[j]? = some o by simpa using ho)
    exact List.mem_of_mem_take this))
  have G0 := goes_drew hM
  rcases h with ⟨n, hn, hh⟩ | ⟨Zs, n, hZ, hn, hh⟩
  rotate_left
  · simp only [Bool.or_eq_true, beq_iff_eq] at hn
    rcases hn with hn | hn
    · have hl : l.take n = l := by rw [hn, List.take_length]
      have hd : l.drop n = [] := by rw [hn, List.drop_length]
      have hokl := hokn n
      rw [hl] at hh hokl
      refine sAny_sound (w := w.drew) hokl l.toArray.size _ hZ G0.mem (G0.repF hf) rfl hh fun f' S' η' w' a' g1 g2 g3 g4 g5 => ?_
      rw [hd] at g1
      exact hq f' S' η' w' a' g1 (G0.trans g2) g3 g4 g5
    · refine any_whole n hn ?_
      have := sAny_sound (Q' := Exit.then (fun a w => wpList P l.toArray Q' (l.drop n) a w) Q') (hokn n) (l.take n).toArray.size (Array.replicate (l.take n).toArray.size false) hZ G0.mem (G0.repF hf) rfl hh fun f' S1 η' w' a' g1 g2 g3 g4 g5 => by
        refine dops_sound (l.drop n) (fun o ho => by rw [g4]; exact hok o (List.mem_of_mem_drop ho)) g2.mem g3 g1 fun f'' S'' η'' w'' a'' k1 k2 k3 k4 k5 => ?_
        exact hq f'' S'' η'' w'' a'' k1 ((G0.trans g2).trans k2) k3 (by rw [k4, g4]) (by rw [k5, g5])
      exact this
  simp only [drawOk, Bool.and_eq_true, Bool.or_eq_true, beq_iff_eq] at hn
  obtain ⟨hlex, hn⟩ := hn
  simp only [Region.lexB, Bool.and_eq_true] at hlex
  have hany := hAny_lex (l.take n) 0 (Array.replicate (l.take n).toArray.size false) f none (by simp) (by simpa using hlex.2) hh
  have hok' := hokn n
  rcases hn with hn | hn
  · subst hn
    rw [List.take_length] at hany hok'
    refine wpAny_of_head (u := none) (w := w.drew) hM.fresh hok' l.toArray.size _ G0.mem (G0.repF hf) rfl (by simpa using hany) fun f' u' η' w' a' g1 g2 g3 g4 g5 => ?_
    have g1' : Q f' (after S u') := by simpa [dops, dops2] using g1
    exact hq f' (after S u') η' w' a' g1' (G0.trans g2) g3 g4 g5
  · refine any_whole n hn ?_
    have := wpAny_of_head (u := none) (Q' := Exit.then (fun a w => wpList P l.toArray Q' (l.drop n) a w) Q') hM.fresh hok' (l.take n).toArray.size (Array.replicate (l.take n).toArray.size false) G0.mem (G0.repF hf) rfl (by simpa using hany) fun f' u' η' w' a' g1 g2 g3 g4 g5 => by
      refine dops_sound (l.drop n) (fun o ho => by rw [g4]; exact hok o (List.mem_of_mem_drop ho)) g2.mem g3 g1 fun f'' S'' η'' w'' a'' k1 k2 k3 k4 k5 => ?_
      exact hq f'' S'' η'' w'' a'' k1 ((G0.trans g2).trans k2) k3 (by rw [k4, g4]) (by rw [k5, g5])
    exact this
theorem dwpN_sound (hm : P.follows .mixedOrders = true) {l n : Nat} : ∀ (c : Code) {Q : DQ} {S : St} {η : Names} {w : World} {f : Fm} {a : Act} {Q' : Exit → Act → World → Prop}, plainC c = true → codeOk a.tmps.size c = true → Mem P base S η w → RepF P w η (Fix P S η) f a → dwp P c Q f S → ¬ LetsOut Q' →
    (∀ e f' S' η' w' a', Q e f' S' → Goes P base S η w S' η' w' → RepF P w' η' (Fix P S' η') f' a' → a'.tmps.size = a.tmps.size → a'.defers = a.defers → Q' e.up a' w') → c.wpIn (Fence.wide.inRound l) n P Q' a w := by
  intro c
  induction c with
  | skip => intro Q S η w f a Q' _ _ hM hf h _ hq; exact wpIn_skip (hq .normal f S η w a h (Goes.refl hM) hf rfl rfl)
  | label l => intro Q S η w f a Q' _ _ hM hf h _ hq; exact wpIn_label (hq .normal f S η w a h (Goes.refl hM) hf rfl rfl)
  | exit id => intro Q S η w f a Q' _ _ hM hf h _ hq; exact wpIn_exit (hq (.exit id) f S η w a h (Goes.refl hM) hf rfl rfl)
  | region id ops draw =>
    intro Q S η w f a Q' hp hok hM hf h hQ hq
    have hok' : ∀ o ∈ ops.toList, operOk a.tmps.size ops o = true := fun o ho => Array.all_eq_true_iff_forall_mem.1 hok o (by simpa using ho)
    have hd : ∀ o ∈ ops.toList, noDefer o = true := fun o ho => Array.all_eq_true_iff_forall_mem.1 hp o (by simpa using ho)
    cases draw with
    | false => exact wpIn_region_list (listIn_of hQ _ _ _ hd (dops_sound ops.toList hok' hM hf h fun f' S' η' w' a' k1 k2 k3 k4 k5 => hq .normal f' S' η' w' a' k1 k2 k3 k4 k5))
    | true =>
      have := ddraw_any_sound (Q' := Q') (l := ops.toList) hok' hM hf h fun f' S' η' w' a' k1 k2 k3 k4 k5 => hq .normal f' S' η' w' a' k1 k2 k3 k4 k5
      exact wpIn_region_any hm (anyIn_of (fun j o ho => hd o (List.mem_of_getElem? (by simpa using ho))) hQ _ _ _ _ this)
  | seq x y ihx ihy =>
    intro Q S η w f a Q' hp hok hM hf h hQ hq
    simp only [codeOk, plainC, Bool.and_eq_true] at hok hp
    refine wpIn_seq (ihx hp.1 hok.1 hM hf h (fun ⟨a, w, h⟩ => hQ ⟨a, w, h⟩) fun e f' S' η' w' a' k1 k2 k3 k4 k5 => ?_)
    cases e with
    | normal =>
      exact ihy hp.2 (by rw [k4]; exact hok.2) k2.mem k3 k1 hQ fun e f'' S'' η'' w'' a'' g1 g2 g3 g4 g5 => hq e f'' S'' η'' w'' a'' g1 (k2.trans g2) g3 (by rw [g4, k4]) (by rw [g5, k5])
    | exit i => exact hq (.exit i) f' S' η' w' a' k1 k2 k3 k4 k5
    | ret => exact hq .ret f' S' η' w' a' k1 k2 k3 k4 k5
  | cond g x y ihx ihy =>
    intro Q S η w f a Q' hp hok hM hf h hQ hq
    simp only [codeOk, plainC, Bool.and_eq_true] at hok hp
    have hg := hf.ev hok.1.1
    unfold dwp at h
    split at h
    · rename_i b hb
      rw [hb] at hg
      simp only [Rep] at hg
      refine wpIn_cond (t := b) hg ?_
      cases b with
      | true => exact ihx hp.1 hok.1.2 hM hf (h.1 rfl) hQ hq
      | false => exact ihy hp.2 hok.2 hM hf (h.2 rfl) hQ hq
    · exact h.elim
  | block id c ih =>
    intro Q S η w f a Q' hp hok hM hf h hQ hq
    refine wpIn_block (ih hp hok hM hf h (fun ⟨a, w, h⟩ => hQ ⟨a, w, h⟩) fun e f' S' η' w' a' k1 k2 k3 k4 k5 => ?_)
    cases e with
    | normal => exact hq .normal f' S' η' w' a' k1 k2 k3 k4 k5
    | ret => exact hq .ret f' S' η' w' a' k1 k2 k3 k4 k5
    | exit i =>
      simp only [DQ.block] at k1
      simp only [DX.up, Exit.inBlock]
      cases hb : Nat.beq i id with
      | true =>
        rw [if_pos (Nat.eq_of_beq_eq_true hb)]
        rw [hb] at k1
        exact hq .normal f' S' η' w' a' k1 k2 k3 k4 k5
      | false =>
        rw [if_neg (by intro e; rw [e, Nat.beq_refl] at hb; cases hb)]
        rw [hb] at k1
        exact hq (.exit i) f' S' η' w' a' k1 k2 k3 k4 k5
  | loop c ih => intro Q S η w f a Q' hp; cases hp
  | ret => intro Q S η w f a Q' hp; cases hp
  | rangeFunc x ps aa b _ _ => intro Q S η w f a Q' hp; cases hp
  | scope c _ => intro Q S η w f a Q' hp; cases hp
  | goto l => intro Q S η w f a Q' hp; cases hp
  | refuse s => intro Q S η w f a Q' hp; cases hp
end
end Go.Proofs.YtonncfminojejaaGreatDoor

namespace Go.Proofs.YtonncfminojejaaGreatDoor
open Go.RowKit

theorem loopO_cell {W : World} {l : Nat} {o : Obj} (h : W.heap[l]? = some o) (ho : isLoopO o = true) (i : Nat) : W.cell? ⟨l, i, none⟩ = none := by
  unfold World.cell?
  rw [h]
  cases o <;> first | rfl | cases ho
theorem put_cell {W : World} {l : Nat} {o o' : Obj} (h : W.heap[l]? = some o) (ho : isLoopO o = true) (ho' : isLoopO o' = true) (b i : Nat) : (W.putObj l o').cell? ⟨b, i, none⟩ = W.cell? ⟨b, i, none⟩ := by
  by_cases e : b = l
  · subst e
    rw [loopO_cell h ho, loopO_cell (World.putObj_heap_same (Array.getElem?_eq_some_iff.1 h).1) ho']
  · exact World.cell?_of_block (World.putObj_heap_other e)
theorem put_cells {W : World} {l : Nat} {o o' : Obj} (h : W.heap[l]? = some o) (ho : isLoopO o = true) {b : Nat} {c : Array Value} {t : TypeId} {fr : Nat × Nat} (hc : W.heap[b]? = some (.cells c t fr)) : (W.putObj l o').heap[b]? = some (.cells c t fr) := by
  have e : b ≠ l := fun e => by subst e; rw [h] at hc; cases hc; cases ho
  exact (World.putObj_heap_other e).trans hc
section
variable {P : Program} {base : Nat} {S T : St} {η η' : Names} {w W : World}
theorem goes_put (hG : Goes P base S η w T η' W) {l : Nat} {o o' : Obj} (h : W.heap[l]? = some o) (ho : isLoopO o = true) (ho' : isLoopO o' = true) (hl : w.heap.size ≤ l) (hb : base ≤ w.heap.size) : Goes P base S η w T η' (W.putObj l o') := by
  have hM := hG.mem
  have K : Keep (fun _ => True) W η' (Fix P T η') (W.putObj l o') η' (Fix P T η') := ⟨by simp, fun b i _ hx => ⟨hx, put_cell h ho ho' b i⟩, fun _ _ _ hx => hx, fun b c e hx => ⟨c, put_cells h ho hx, rfl⟩⟩
  have hB : Below base W (W.putObj l o') := ⟨rfl, rfl, rfl, by simp, fun k hk => World.putObj_heap_other (by omega)⟩
  refine ⟨⟨by simpa using hM.base_, hM.dead, hM.fresh, hM.live, hM.inj, fun k b hk => by simpa using hM.in_ k b hk, fun k t cs b h1 h2 => ?_, fun k e n b h1 h2 => ?_, hM.glob.below hB⟩, hG.keep.trans K, hG.below.trans hB, fun hm => hG.drawn hm, fun k x hk hx => ?_⟩
  · obtain ⟨vs, k1, k2, k3⟩ := hM.box k t cs b h1 h2
    exact ⟨vs, put_cells h ho k1, RepL.keep K (allL_true _) k2, k3⟩
  · obtain ⟨cur, k1, k2⟩ := hM.row k e n b h1 h2
    exact ⟨cur, put_cells h ho k1, k2⟩
  · have hk' := (Array.getElem?_eq_some_iff.1 hk).1
    exact (World.putObj_heap_other (by omega)).trans (hG.loops k x hk hx)
theorem rep_put {l : Nat} {o o' : Obj} (h : W.heap[l]? = some o) (ho : isLoopO o = true) (ho' : isLoopO o' = true) {d : D} {v : Value} (hr : Rep P W η' (Fix P T η') d v) : Rep P (W.putObj l o') η' (Fix P T η') d v :=
  Rep.keep (N := fun _ => True) ⟨by simp, fun b i _ hx => ⟨hx, put_cell h ho ho' b i⟩, fun _ _ _ hx => hx, fun b c e hx => ⟨c, put_cells h ho hx, rfl⟩⟩ (D.all_true d) hr
end

def SeqT (P : Program) (gf : FuncId) (lb : Array Value) (N : Nat) (x : Nat → Value) (K : World → Prop) : Prop :=
  ∀ (l : Nat) (J : Nat → World → Prop) (W : World), (∀ i W, J i W → K W ∧ J i W.drew) →
    (∀ i W1, i < N → J i W1 → YieldAt Fence.wide 5 P l #[x i] W1 fun e W' => e = .returned (.bool true) ∧ J (i + 1) W') → J 0 W →
    CallsIn Fence.wide 6 P gf (#[.func (.yield l) #[] #[]] ++ lb) W fun e W' => (∃ v, e = .returned v) ∧ J N W'
def DSeq (P : Program) (gf : FuncId) (caps : List D) (S : St) (N : Nat) (x : Nat → D) : Prop :=
  (∀ args w, (callFunc gf args).run P w = .ok (.enter gf args) w) ∧
  ∀ base η w lb, Mem P base S η w → RepL P w η (Fix P S η) caps lb → ∃ (K : World → Prop) (y : Nat → Value), (∀ T η' W, Goes P base S η w T η' W → K W) ∧ (∀ i, i < N → Rep P w η (Fix P S η) (x i) (y i)) ∧ SeqT P gf lb.toArray N y K

def DRange (P : Program) (g : Operand) (p : Tmp) (assign body : Code) (k : Fm → St → Prop) (f : Fm) (S : St) : Prop :=
  ∃ (gf : FuncId) (caps : List D) (N : Nat) (x : Nat → D) (I : Nat → St → Prop), ev f g = .fn (.func gf) [] caps ∧ DSeq P gf caps S N x ∧ I 0 S ∧
    (∀ i T, i < N → T.WF → I i T → dwp P (.seq assign body) (fun e _ T' => e = .normal ∧ I (i + 1) T') (put f (some p) (x i)) T) ∧ ∀ T, T.WF → I N T → k f T
def dwpR (P : Program) : Code → DQ → Fm → St → Prop
  | .rangeFunc g ps assign body, Q, f, S => match ps.toList with
    | [p] => DRange P g p assign body (Q .normal) f S
    | _ => False
  | .seq x y, Q, f, S => dwpR P x (DQ.then (fun f S => dwpR P y Q f S) Q) f S
  | .block id c, Q, f, S => dwpR P c (DQ.block id Q) f S
  | c, Q, f, S => dwp P c Q f S
def codeR (n : Nat) : Code → Bool
  | .rangeFunc g _ assign body => opnOk n g && plainC assign && plainC body && codeOk n assign && codeOk n body
  | .seq x y => codeR n x && codeR n y
  | .block _ c => codeR n c
  | c => codeOk n c
abbrev markD (D : Nat) : Deferred := { target := .collected D, args := #[] }
section
variable {P : Program} {base : Nat} {S : St} {η : Names} {w : World} {f : Fm} {a : Act}
theorem range_sound (hm : P.follows .mixedOrders = true) {g : Operand} {p : Tmp} {assign body : Code} {k : Fm → St → Prop} {Q' : Exit → Act → World → Prop} (hok : codeR a.tmps.size (.rangeFunc g #[p] assign body) = true) (hM : Mem P base S η w) (hf : RepF P w η (Fix P S η) f a) (h : DRange P g p assign body k f S)
    (hq : ∀ T η' W D, k f T → Goes P base S η w T η' W → w.heap.size ≤ D → W.heap[D]? = some (.deferred (some [])) → Q' .normal { a with defers := markD D :: a.defers } W) : (Code.rangeFunc g #[p] assign body).wp P Q' a w := by
  obtain ⟨gf, caps, N, x, I, hg, ⟨eg, hseq⟩, h0, hr, hk⟩ := h
  simp only [codeR, Bool.and_eq_true] at hok
  obtain ⟨⟨⟨⟨hok1, hok2⟩, hok3⟩, hok4⟩, hok5⟩ := hok
  have hev := hf.ev hok1
  rw [hg] at hev
  simp only [Rep, RepL] at hev
  obtain ⟨us, lb, hev, rfl, hcaps⟩ := hev
  obtain ⟨K, y, hK, hy, hS⟩ := hseq base η w lb hM hcaps
  refine (wpIn_wide (n := 7)).1 (wpIn_rangeFunc ?_)
  intro fn hfn
  obtain ⟨rec, hrec⟩ : ∃ rec : LoopState → Option Code → Loop, rec = fun st pe => { state := st, pending := pe, fn, tmps := a.tmps, params := #[p], assign, body, defers := w.heap.size } := ⟨_, rfl⟩
  obtain ⟨W1, hW1⟩ : ∃ W1, (w.alloc (.deferred (some []))).alloc (.loop (rec .ready none)) = W1 := ⟨_, rfl⟩
  have hL1 : W1.heap[w.heap.size + 1]? = some (.loop (rec .ready none)) := by
    rw [← hW1]; have := World.alloc_heap_new (w.alloc (.deferred (some []))) (.loop (rec .ready none)); rwa [World.size_alloc] at this
  have hK1 : W1.heap[w.heap.size]? = some (.deferred (some [])) := by
    rw [← hW1]; exact (Below.heap_alloc _ _ _ (by simp)).trans (World.alloc_heap_new w _)
  have G1 : Goes P base S η w S η W1 := by
    have g1 := goes_new hM (.deferred (some []))
    rw [← hW1]; exact g1.trans (goes_new g1.mem _)
  refine ⟨w.heap.size + 1, [{ target := .collected w.heap.size, args := #[] }], W1, { target := .fn (.func gf) lb.toArray, args := #[.func (.yield (w.heap.size + 1)) #[] #[]] }, W1, gf,
    #[.func (.yield (w.heap.size + 1)) #[] #[]] ++ lb.toArray, W1, ?_, ?_, fun _ _ => trivial, ?_, (fun e => by cases e), ?_⟩
  · rw [← hW1, hrec]; exact run_enterLoop_outer _ _ _ _ _
  · simp only [resolve, hev]
    simp [go_sem]
  · simp [invoke, go_sem, eg]
  · let J : Nat → World → Prop := fun i W => ∃ T η', I i T ∧ Goes P base S η w T η' W ∧ W.heap[w.heap.size + 1]? = some (.loop (rec .ready none)) ∧ W.heap[w.heap.size]? = some (.deferred (some []))
    refine (hS (w.heap.size + 1) J W1 (fun i W ⟨T, η', h1, h2, h3, h4⟩ => ⟨hK T η' W h2, T, η', h1, h2.trans (goes_drew h2.mem), h3, h4⟩) ?_ ⟨S, η, h0, G1, hL1, hK1⟩).mono ?_
    · rintro i W hi ⟨T, η', hI, hG, hl, hkk⟩
      have hyr := run_yield (P := P) (args := #[y i]) hl (by rw [hrec]; rfl)
      rw [hrec] at hyr
      refine ⟨fn, _, assign, body, hyr, ?_⟩
      refine roundIn_of_wpIn hfn ?_
      have hbody := hr i T hi hG.mem.fresh hI
      have hF : RepF P W η' (Fix P T η') (put f (some p) (x i)) (a.put (some p) (y i)) := (hG.repF hf).put (hG.rep (hy i hi)) (some p)
      have hsz : (a.put (some p) (y i)).tmps.size = a.tmps.size := by rw [size_put]
      have key : assign.wpIn (Fence.wide.inRound (w.heap.size + 1)) 5 P (Exit.then (fun a₁ w₁ => ∃ w₂, (Instr.beginRound (w.heap.size + 1)).run P w₁ = .ok () w₂ ∧ body.wpIn (Fence.wide.inRound (w.heap.size + 1)) 5 P (roundPost P (w.heap.size + 1) (fun e W' => e = .returned (.bool true) ∧ J (i + 1) W')) a₁ w₂) (fun _ _ _ => False)) { tmps := (a.put (some p) (y i)).tmps, defers := [] } W := by
        refine dwpN_sound hm assign (Q := DQ.then (fun f S => dwp P body (fun e _ T' => e = .normal ∧ I (i + 1) T') f S) (fun e _ T' => e = .normal ∧ I (i + 1) T')) hok2 (by show codeOk (a.put (some p) (y i)).tmps.size assign = true; rw [hsz]; exact hok4) hG.mem (fun t ht' => hF t ht') hbody (fun ⟨_, _, h⟩ => h) fun e f' S' η1 w1 a' k1 k2 k3 k4 k5 => ?_
        cases e with
        | exit _ => cases k1.1
        | ret => cases k1.1
        | normal =>
          have hl1 := k2.loops _ _ hl rfl
          have hk1 := k2.loops _ _ hkk rfl
          refine ⟨_, run_beginRound hl1 (by rw [hrec]), ?_⟩
          have G2 := hG.trans k2
          have G3 := goes_put G2 (o' := .loop { rec .ready none with state := .busy }) hl1 rfl rfl (by omega) hM.base_
          have hl2 : (w1.putObj (w.heap.size + 1) (.loop { rec .ready none with state := .busy })).heap[w.heap.size + 1]? = some (.loop { rec .ready none with state := .busy }) := World.putObj_heap_same (Array.getElem?_eq_some_iff.1 hl1).1
          have hk2 : (w1.putObj (w.heap.size + 1) (.loop { rec .ready none with state := .busy })).heap[w.heap.size]? = some (.deferred (some [])) := (World.putObj_heap_other (by omega)).trans hk1
          have k4' : a'.tmps.size = a.tmps.size := k4.trans hsz
          refine dwpN_sound hm body (Q := fun e _ T' => e = .normal ∧ I (i + 1) T') hok3 (by rw [k4']; exact hok5) G3.mem (fun t ht' => rep_put hl1 rfl rfl (k3 t ht')) k1 (fun ⟨_, _, h⟩ => h) fun e f'' S'' η2 w2 a'' j1 j2 j3 j4 j5 => ?_
          obtain ⟨rfl, j1⟩ := j1
          have hl3 := j2.loops _ _ hl2 rfl
          have hk3 := j2.loops _ _ hk2 rfl
          refine ⟨_, _, run_endRound none hl3, rfl, S'', η2, j1, ?_, ?_, ?_⟩
          · exact goes_put (G3.trans j2) hl3 rfl rfl (by omega) hM.base_
          · have := World.putObj_heap_same (o := .loop { { rec .ready none with state := .busy } with state := if (none : Option Code).isNone then .ready else .done, pending := none }) (Array.getElem?_eq_some_iff.1 hl3).1
            rw [hrec] at this ⊢
            exact this
          · exact (World.putObj_heap_other (by omega)).trans hk3
      exact cast (congrArg (fun t => assign.wpIn (Fence.wide.inRound (w.heap.size + 1)) 5 P (Exit.then (fun a₁ w₁ => ∃ w₂, (Instr.beginRound (w.heap.size + 1)).run P w₁ = .ok () w₂ ∧ body.wpIn (Fence.wide.inRound (w.heap.size + 1)) 5 P (roundPost P (w.heap.size + 1) (fun e W' => e = .returned (.bool true) ∧ J (i + 1) W')) a₁ w₂) (fun _ _ _ => False)) { tmps := t, defers := [] } W) (by simp [Act.put])) key
    · rintro e W2 ⟨⟨v, rfl⟩, T, η', hI, hG, hl, hkk⟩
      refine ⟨none, _, ?_, hq T η' _ w.heap.size (hk T hG.mem.fresh hI) (goes_put (o' := .loop { rec .ready none with state := .exhausted }) hG hl rfl rfl (by omega) hM.base_) (Nat.le_refl _) ((World.putObj_heap_other (by omega)).trans hkk)⟩
      have := run_endLoop (P := P) hl (by rw [hrec]; simp)
      rw [hrec] at this ⊢
      exact this
theorem dwpR_sound (hm : P.follows .mixedOrders = true) : ∀ (c : Code) {Q : DQ} {S : St} {η : Names} {w : World} {f : Fm} {a : Act} {Q' : Exit → Act → World → Prop}, codeR a.tmps.size c = true → Mem P base S η w → RepF P w η (Fix P S η) f a → dwpR P c Q f S →
    (∀ e f' S' η' w' a' (ds : List Nat), Q e f' S' → Goes P base S η w S' η' w' → RepF P w' η' (Fix P S' η') f' a' → a'.tmps.size = a.tmps.size → a'.defers = ds.map markD ++ a.defers → ds.Nodup → (∀ D ∈ ds, w.heap.size ≤ D ∧ w'.heap[D]? = some (.deferred (some []))) → Q' e.up a' w') → c.wp P Q' a w := by
  have plain : ∀ (c : Code) {Q : DQ} {S : St} {η : Names} {w : World} {f : Fm} {a : Act} {Q' : Exit → Act → World → Prop}, codeOk a.tmps.size c = true → Mem P base S η w → RepF P w η (Fix P S η) f a → dwp P c Q f S →
      (∀ e f' S' η' w' a' (ds : List Nat), Q e f' S' → Goes P base S η w S' η' w' → RepF P w' η' (Fix P S' η') f' a' → a'.tmps.size = a.tmps.size → a'.defers = ds.map markD ++ a.defers → ds.Nodup → (∀ D ∈ ds, w.heap.size ≤ D ∧ w'.heap[D]? = some (.deferred (some []))) → Q' e.up a' w') → c.wp P Q' a w :=
    fun c {Q S η w f a Q'} hok hM hf h hq => dwp_sound hm c hok hM hf h fun e f' S' η' w' a' k1 k2 k3 k4 k5 => hq e f' S' η' w' a' [] k1 k2 k3 k4 (by rw [k5]; rfl) List.nodup_nil (fun _ h => by cases h)
  intro c
  induction c with
  | skip => intro Q S η w f a Q' hok hM hf h hq; exact plain _ hok hM hf h hq
  | label l => intro Q S η w f a Q' hok hM hf h hq; exact plain _ hok hM hf h hq
  | exit id => intro Q S η w f a Q' hok hM hf h hq; exact plain _ hok hM hf h hq
  | region id ops draw => intro Q S η w f a Q' hok hM hf h hq; exact plain _ hok hM hf h hq
  | cond g x y _ _ => intro Q S η w f a Q' hok hM hf h hq; exact plain _ hok hM hf h hq
  | loop c _ => intro Q S η w f a Q' hok hM hf h hq; exact plain _ hok hM hf h hq
  | ret => intro Q S η w f a Q' hok hM hf h hq; exact plain _ hok hM hf h hq
  | scope c _ => intro Q S η w f a Q' hok hM hf h hq; exact plain _ hok hM hf h hq
  | goto l => intro Q S η w f a Q' hok hM hf h hq; exact plain _ hok hM hf h hq
  | refuse s => intro Q S η w f a Q' hok hM hf h hq; exact plain _ hok hM hf h hq
  | rangeFunc g ps x y _ _ =>
    intro Q S η w f a Q' hok hM hf h hq
    obtain ⟨pl⟩ := ps
    match pl, h with
    | [p], h =>
      refine range_sound hm hok hM hf h fun T η' W D k1 k2 k3 k4 => ?_
      exact hq .normal f T η' W _ [D] k1 k2 (k2.repF hf) rfl rfl (List.nodup_cons.2 ⟨by simp, List.nodup_nil⟩) (fun D' hD => by obtain rfl := List.mem_singleton.1 hD; exact ⟨k3, k4⟩)
  | seq x y ihx ihy =>
    intro Q S η w f a Q' hok hM hf h hq
    simp only [codeR, Bool.and_eq_true] at hok
    refine wp_seq (ihx hok.1 hM hf h fun e f' S' η' w' a' ds k1 k2 k3 k4 k5 k6 k7 => ?_)
    cases e with
    | normal =>
      refine ihy (by rw [k4]; exact hok.2) k2.mem k3 k1 fun e f'' S'' η'' w'' a'' ds2 g1 g2 g3 g4 g5 g6 g7 => hq e f'' S'' η'' w'' a'' (ds2 ++ ds) g1 (k2.trans g2) g3 (by rw [g4, k4]) (by rw [g5, k5, List.map_append, List.append_assoc]) ?_ fun D hD => ?_
      · refine List.nodup_append.2 ⟨g6, k6, fun D1 h1 D2 h2 e => ?_⟩
        have a1 := (g7 D1 h1).1
        have a2 := (Array.getElem?_eq_some_iff.1 (k7 D2 h2).2).1
        omega
      · rcases List.mem_append.1 hD with h1 | h1
        · exact ⟨Nat.le_trans k2.keep.size (g7 D h1).1, (g7 D h1).2⟩
        · exact ⟨(k7 D h1).1, g2.loops _ _ (k7 D h1).2 rfl⟩
    | exit i => exact hq (.exit i) f' S' η' w' a' ds k1 k2 k3 k4 k5 k6 k7
    | ret => exact hq .ret f' S' η' w' a' ds k1 k2 k3 k4 k5 k6 k7
  | block id c ih =>
    intro Q S η w f a Q' hok hM hf h hq
    refine wp_block (ih hok hM hf h fun e f' S' η' w' a' ds k1 k2 k3 k4 k5 k6 k7 => ?_)
    cases e with
    | normal => exact hq .normal f' S' η' w' a' ds k1 k2 k3 k4 k5 k6 k7
    | ret => exact hq .ret f' S' η' w' a' ds k1 k2 k3 k4 k5 k6 k7
    | exit i =>
      simp only [DQ.block] at k1
      simp only [DX.up, Exit.inBlock]
      cases hb : Nat.beq i id with
      | true =>
        rw [if_pos (Nat.eq_of_beq_eq_true hb)]
        rw [hb] at k1
        exact hq .normal f' S' η' w' a' ds k1 k2 k3 k4 k5 k6 k7
      | false =>
        rw [if_neg (by intro e; rw [e, Nat.beq_refl] at hb; cases hb)]
        rw [hb] at k1
        exact hq (.exit i) f' S' η' w' a' ds k1 k2 k3 k4 k5 k6 k7
end
theorem leaves_marks {P : Program} {fn : Func} {tmps : Array Value} {R : Ending → World → Prop} : ∀ (ds : List Nat) (w : World), ds.Nodup → (∀ D ∈ ds, w.heap[D]? = some (.deferred (some []))) → (∀ W : World, (∃ X : List Nat, (∀ D ∈ X, D ∈ ds) ∧ W = X.foldl (fun w D => w.putObj D (.deferred none)) w ∧ X = ds) → ∃ v, (results fn tmps).run P W = .ok v W ∧ R (.returned v) W) →
    LeavesInM Fence.wide 0 P fn tmps R (ds.map markD) .returning w
  | [], w, _, _, h => h w ⟨[], fun _ h => h, rfl, rfl⟩
  | D :: ds, w, hn, hd, h => by
    obtain ⟨hn1, hn2⟩ := List.nodup_cons.1 hn
    refine ⟨by simp, .inl ⟨D, w.putObj D (.deferred none), rfl, run_takeDeferred (hd D (List.mem_cons_self ..)), ?_⟩⟩
    refine leaves_marks ds _ hn2 (fun D' hD => (World.putObj_heap_other (fun e => hn1 (by rw [← e]; exact hD))).trans (hd D' (List.mem_cons_of_mem _ hD))) fun W ⟨X, _, h2, h3⟩ => ?_
    subst h3
    exact h W ⟨D :: X, fun _ h => h, h2, rfl⟩
theorem goes_puts {P : Program} {base : Nat} {S T : St} {η η' : Names} {w : World} (hb : base ≤ w.heap.size) : ∀ (ds : List Nat) (W : World), Goes P base S η w T η' W → ds.Nodup → (∀ D ∈ ds, w.heap.size ≤ D ∧ W.heap[D]? = some (.deferred (some []))) → Goes P base S η w T η' (ds.foldl (fun w D => w.putObj D (.deferred none)) W) ∧ ∀ d v, Rep P W η' (Fix P T η') d v → Rep P (ds.foldl (fun w D => w.putObj D (.deferred none)) W) η' (Fix P T η') d v
  | [], W, hG, _, _ => ⟨hG, fun _ _ h => h⟩
  | D :: ds, W, hG, hn, hd => by
    obtain ⟨hn1, hn2⟩ := List.nodup_cons.1 hn
    obtain ⟨h1, h2⟩ := hd D (List.mem_cons_self ..)
    have G := goes_put (o' := .deferred none) hG h2 rfl rfl h1 hb
    obtain ⟨k1, k2⟩ := goes_puts hb ds _ G hn2 fun D' hD => ⟨(hd D' (List.mem_cons_of_mem _ hD)).1, (World.putObj_heap_other (fun e => hn1 (by rw [← e]; exact hD))).trans (hd D' (List.mem_cons_of_mem _ hD)).2⟩
    exact ⟨k1, fun d v hr => k2 d v (rep_put h2 rfl rfl hr)⟩
theorem dcalls_range {P : Program} (hm : P.follows .mixedOrders = true) {g : FuncId} {fn : Func} {c : Code} (hf : P.funcs[g]? = some fn) (hb : fn.body = some c) (hent : ∀ vs w, (callFunc g vs).run P w = .ok (.enter g vs) w) {rs : List ResultVar} (hrs : fn.results.toList = rs) {args : List D} (hok : (codeR fn.ntmps c && fn.results.all (resOk fn.ntmps) && Nat.ble args.length fn.ntmps) = true) {S : St} {K : D → St → Prop}
    (h : S.WF → dwpR P c (DQ.inl P rs K) (argF args) S) : DCalls P g args S K := by
  subst hrs
  intro base η w vs hM hr
  refine .inl ⟨hent _ _, ?_⟩
  simp only [Bool.and_eq_true] at hok
  obtain ⟨⟨hok1, hok2⟩, hok3⟩ := hok
  have hlen : args.length ≤ fn.ntmps := Nat.le_of_ble_eq_true hok3
  have hl := hr.length
  have hsz : (vs.toArray ++ Array.replicate (fn.ntmps - vs.toArray.size) undef).size = fn.ntmps := by simp; omega
  refine (callsIn_wide (n := 0)).1 (callsIn_of_wp_marks hf hb trivial ((wpIn_wide (n := 0)).2 ?_))
  refine dwpR_sound hm c (a := { tmps := vs.toArray ++ Array.replicate (fn.ntmps - vs.toArray.size) undef, defers := [] }) (by rw [hsz]; exact hok1) hM (fun t ht => ?_) (h hM.fresh) fun e f' S' η' w' a' ds k1 k2 k3 k4 k5 k6 k7 => ?_
  · rw [hsz] at ht
    simp only [argF]
    by_cases h1 : t < vs.length
    · obtain ⟨x, hx, hr'⟩ := hr.get t (List.getElem?_eq_getElem (by omega : t < args.length))
      have e1 : args.getD t undefD = args[t] := by rw [List.getD_eq_getElem?_getD, List.getElem?_eq_getElem (by omega : t < args.length)]; rfl
      have e2 : (vs.toArray ++ Array.replicate (fn.ntmps - vs.toArray.size) undef).getD t undef = x := by
        rw [Array.getD_eq_getD_getElem?, Array.getElem?_append_left (by simpa using h1)]
        simp [hx]
      rw [e1, e2]
      exact hr'
    · have e1 : args.getD t undefD = undefD := by rw [List.getD_eq_getElem?_getD, List.getElem?_eq_none (by omega)]; rfl
      have e2 : (vs.toArray ++ Array.replicate (fn.ntmps - vs.toArray.size) undef).getD t undef = undef := by
        rw [Array.getD_eq_getD_getElem?, Array.getElem?_append_right (by simpa using h1)]
        rw [Array.getElem?_replicate]
        split <;> rfl
      rw [e1, e2]
      simp only [Rep, RepL]
      exact ⟨[], rfl, rfl⟩
  · have hsz' : a'.tmps.size = fn.ntmps := by rw [k4]; exact hsz
    have hd' : a'.defers = ds.map markD := by rw [k5]; simp
    have fin : dresL P f' S' fn.results.toList (fun ds => K (one ds) S') → LeavesInM Fence.wide 0 P fn a'.tmps (fun e w' => ∃ d S' η' v, K d S' ∧ e = .returned v ∧ Rep P w' η' (Fix P S' η') d v ∧ Goes P base S η w S' η' w') a'.defers .returning w' := fun hres => by
      rw [hd']
      refine leaves_marks ds w' k6 (fun D hD => (k7 D hD).2) fun W ⟨X, _, hW, hX⟩ => ?_
      subst hX
      obtain ⟨g1, g2⟩ := goes_puts hM.base_ X w' k2 k6 k7
      rw [← hW] at g1 g2
      obtain ⟨ds', v, q1, q7, q8⟩ := results_sound (S := S') (η := η') (w := W) (f := f') g1.mem (fun t ht => g2 _ _ (k3 t ht)) (by rw [hsz']; exact hok2) hres
      exact ⟨v, q8, one ds', S', η', v, q1, rfl, q7, g1⟩
    cases e with
    | normal => exact fin k1
    | ret => exact fin k1
    | exit i => exact k1.elim
end Go.Proofs.YtonncfminojejaaGreatDoor

namespace Go.Proofs.YtonncfminojejaaGreatDoor
open Go.RowKit
set_option maxRecDepth 100000
attribute [local go_sem] Oper.semAt_some
theorem rd_loc {P : Program} {base : Nat} {S S' : St} {η : Names} {w : World} {k b : Nat} {t : TypeId} {cs : List D} (hM : Mem P base S η w) (hk : S.ob k = some (.box t cs)) (hb : η k = some (some b)) (hs : ∀ j o, S'.ob j = some o → S.ob j = some o) (hk' : S'.ob k = none) : RepC P w η (Fix P S' η) cs b 0 := by
  obtain ⟨vs, h1, h2, h3⟩ := hM.box k t cs b hk hb
  have K : Keep (fun _ => True) w η (Fix P S η) w η (Fix P S' η) := ⟨Nat.le_refl _, fun b i _ hx => ⟨fun k' o hk' ho => hx k' o hk' (hs k' o ho), rfl⟩, fun _ _ _ h => h, fun _ c _ h => ⟨c, h, rfl⟩⟩
  refine RepC.mk (RepL.keep K (allL_true _) h2) (fun j v hj => ?_) (fun j _ k2 o hk2 ho => ?_) h3
  · simp [World.cell?, h1, hj]
  · have e := hM.inj k2 k b hk2 hb (by rw [hs k2 o ho]; rfl) (by rw [hk]; rfl)
    subst e
    rw [hk'] at ho
    cases ho
theorem thaw_fn_rd2 {P : Program} {S : St} {k j : Nat} {f : Fn} {t0 t1 : TypeId} {c0 c1 : List D} (h0 : S.ob k = some (.box t0 c0)) (h1 : S.ob j = some (.box t1 c1)) (hkj : k ≠ j) : Thaw P S (.fn f [] [.loc k 0, .loc j 0]) ((S.drop k).drop j) (.fn f [] [.rd c0 0, .rd c1 0]) := by
  intro base η w v hM hr
  have G1 := goes_drop hM k
  have G2 := goes_drop G1.mem j
  have hs : ∀ i o, ((S.drop k).drop j).ob i = some o → S.ob i = some o := fun i o hi => by
    simp only [St.drop] at hi
    split at hi
    · cases hi
    · split at hi
      · cases hi
      · exact hi
  refine ⟨η, G1.trans G2, ?_⟩
  simp only [Rep, RepL] at hr ⊢
  obtain ⟨us, vs, rfl, rfl, _, _, rfl, ⟨b0, e0, rfl⟩, _, _, rfl, ⟨b1, e1, rfl⟩, rfl⟩ := hr
  refine ⟨_, _, rfl, rfl, _, _, rfl, ⟨b0, 0, rfl, ?_⟩, _, _, rfl, ⟨b1, 0, rfl, ?_⟩, rfl⟩
  · exact rd_loc hM h0 e0 hs (by simp [St.drop, hkj])
  · exact rd_loc hM h1 e1 hs (by simp [St.drop])
set_option maxRecDepth 100000 in
set_option maxHeartbeats 1000000 in
theorem chunk1H_in (l b1 o1 b2 o2 n c : Nat) (A : Option Addr) (y : Nat → Value) (J : Nat → World → Prop) (hn : n ≤ c) (hn2 : n ≤ 140737488355328)
    (hy : ∀ i, 8 * i < n → y i = .slice ((A.map fun a => a.add (8 * i * 32))) (min 8 (n - 8 * i)) (min 8 (n - 8 * i)))
    (hJ : ∀ i W, J i W → (W.cell? ⟨b1, o1, none⟩ = some (.slice A n c) ∧ W.cell? ⟨b2, o2, none⟩ = some (.int .i64 8)) ∧ J i W.drew)
    (hY : ∀ i W1, i < (n + 7) / 8 → J i W1 → YieldAt Fence.wide 5 Tryz.prog l #[y i] W1 fun e W' => e = .returned (.bool true) ∧ J (i + 1) W') (W : World) (h0 : J 0 W) :
    CallsIn Fence.wide 6 Tryz.prog 81 #[.func (.yield l) #[] #[], .pointer (some ⟨b1, o1, none⟩), .pointer (some ⟨b2, o2, none⟩)] W fun e W' => (∃ v, e = .returned v) ∧ J ((n + 7) / 8) W' := by
  refine callsIn_of_wp Tryz.func81 rfl trivial ?_ rfl
  simp only [Tryz.ntmps81, List.size_toArray, List.length_cons, List.length_nil, Nat.reduceAdd, Nat.reduceSub, Array.replicate_succ, Array.replicate_zero, List.push_toArray, List.append_toArray, List.nil_append, List.cons_append]
  gi_wp2
  gi_loopw [4, 5] (fun i _ wr => ∃ k : Nat, i = .int .i64 ((8 * k : Nat) : Int) ∧ k ≤ (n + 7) / 8 ∧ J k wr) (fun i _ _ => n + 8 - (intOf i).toNat)
  case atStart => exact ⟨0, rfl, Nat.zero_le _, h0⟩
  case round =>
    obtain ⟨k, rfl, hk, hj⟩ := hrel
    obtain ⟨⟨hc1, hc2⟩, hjd⟩ := hJ k _ hj
    by_cases hlt : 8 * k < n
    · have hd1 : decide (((8 * k : Nat) : Int) < (n : Int)) = true := decide_eq_true (by omega)
      have hd2 : decide ((8 : Int) * (k : Int) < (n : Int)) = true := decide_eq_true (by omega)
      gi_wp2_with fail
      gi_region
      obtain ⟨m, hm, hm8⟩ : ∃ m : Nat, (if (((n - 8 * k : Nat) : Int)) < 8 then ((n - 8 * k : Nat) : Int) else 8) = (m : Int) ∧ m = min 8 (n - 8 * k) := ⟨min 8 (n - 8 * k), by split <;> omega, rfl⟩
      have hm' : min (8 : Int) ((n - 8 * k : Nat) : Int) = (m : Int) := by rw [hm8]; omega
      first | rw [hm] | rw [hm']
      have wd1 : wr.drew.cell? ⟨b1, o1, none⟩ = some (.slice A n c) := hc1
      have wd2 : wr.drew.cell? ⟨b2, o2, none⟩ = some (.int .i64 8) := hc2
      obtain ⟨fn, tmps, assign, body, hyr, hR⟩ := hY k wr.drew (by omega) hjd
      rw [hy k hlt] at hyr
      obtain ⟨we, hwe⟩ : ∃ we, we = wr.drew := ⟨_, rfl⟩
      rw [← hwe] at wd1 wd2 hyr hR ⊢
      clear hwe hc1 hc2 hj hjd
      have w1 : IntKind.i64.wrap (((8 * k : Nat) : Int) + (m : Int)) = ((8 * k : Nat) : Int) + (m : Int) := IntWalk.i64_in _ ⟨by omega, by omega⟩
      have w2 : IntKind.i64.wrap (((8 * k : Nat) : Int) + 8) = ((8 * k : Nat) : Int) + 8 := IntWalk.i64_in _ ⟨by omega, by omega⟩
      have i1 : (0 : Int) ≤ ((8 * k : Nat) : Int) := by omega
      have i2 : ((8 * k : Nat) : Int) ≤ ((8 * k : Nat) : Int) + (m : Int) := by omega
      have i3 : ((8 * k : Nat) : Int) + (m : Int) ≤ (c : Int) := by omega
      gi_wp2_with fail
      refine hR.mono ?_
      rintro e W3 ⟨rfl, hJ3⟩
      obtain ⟨⟨hc1, hc2⟩, _⟩ := hJ _ _ hJ3
      gi_wp2_with fail
      go_roundw
      case rel => exact ⟨k + 1, by go_num, by omega, hJ3⟩
      case measure => simp [intOf]; omega
    · have hd1 : decide (((8 * k : Nat) : Int) < (n : Int)) = false := decide_eq_false (by omega)
      have hd2 : decide ((8 : Int) * (k : Int) < (n : Int)) = false := decide_eq_false (by omega)
      obtain rfl : k = (n + 7) / 8 := by omega
      gi_wp2_with fail
      go_end0
      exact ⟨⟨_, rfl⟩, hj⟩
theorem chunkH_seq {S : St} (own : Own) (es : List D) (hw : ∀ d ∈ es, d.width = 32) : DSeq Tryz.prog 81 [.rd [.sl own es] 0, .rd [.v (.int .i64 8)] 0] S ((es.length + 7) / 8) (fun i => .sl .no ((es.drop (8 * i)).take 8)) := by
  refine ⟨fun _ _ => by kernel_rfl, fun base η w lb hM hr => ?_⟩
  simp only [RepL, Rep, RepC, and_true] at hr
  obtain ⟨_, _, rfl, ⟨b1, o1, rfl, h1, u1, h2, h3, A, c, rfl, hnc, hn, _, hA⟩, _, _, rfl, ⟨b2, o2, rfl, k1, u2, k2, k3, rfl⟩, rfl⟩ := hr
  refine ⟨fun W => W.cell? ⟨b1, o1 + 0, none⟩ = some (.slice A es.length c) ∧ W.cell? ⟨b2, o2 + 0, none⟩ = some (.int .i64 8), fun i => .slice (A.map fun a => a.add (8 * i * 32)) (min 8 (es.length - 8 * i)) (min 8 (es.length - 8 * i)), fun T η' W G => ⟨(G.keep.cell h1 h2).2, (G.keep.cell k1 k2).2⟩, fun i hi => ?_, fun l J W hJ hY h0 => ?_⟩
  · simp only [Rep]
    refine ⟨_, _, by rw [List.length_take, List.length_drop], by rw [List.length_take, List.length_drop]; omega, by rw [List.length_take]; omega, trivial, fun h0 => ?_⟩
    obtain ⟨b, o, z, hAe, hz, hE⟩ := hA (by omega)
    have hzz : z = 32 := by
      have h0' : 0 < es.length := by omega
      have := (RepE.get 0 hE (List.getElem?_eq_getElem h0')).cells.1
      rw [← this]; exact hw _ (List.getElem_mem h0')
    subst hzz
    refine ⟨b, o + 8 * i * 32, 32, ?_, hz, RepE.mk fun j d hd => ?_⟩
    · rw [hAe]
      simp only [Option.map_some, Addr.add]
      split
      · rename_i e; rw [e]; rfl
      · rfl
    · rw [List.getElem?_take] at hd
      split at hd
      · rw [List.getElem?_drop] at hd
        have := RepE.get (8 * i + j) hE hd
        rwa [show o + (8 * i + j) * 32 = o + 8 * i * 32 + j * 32 by omega] at this
      · cases hd
  · exact chunk1H_in l b1 _ b2 _ es.length c A _ J hnc hn (fun i _ => rfl) hJ hY W h0
theorem chunkH_d {S : St} (own : Own) (es : List D) : DCalls Tryz.prog 55 [.sl own es, .v (.int .i64 8)] S fun d T => d = .fn (.func 81) [] [.rd [.sl own es] 0, .rd [.v (.int .i64 8)] 0] ∧ S.Sub T := by
  refine DCalls.thaw ?_
  refine dcalls_inline mixed Tryz.func55 rfl (fun _ _ => by kernel_rfl) (rs := [.tmp 4]) rfl (by kernel_rfl) (fun hS => ?_)
  have b1 : decide ((8 : Int) < 1) = false := by decide
  (simp (disch := first | decide | omega | (simp only [nx]; first | done | omega)) only [go_sem, b1]; (repeat with_reducible refine aI ?_))
  refine ⟨_, _, thaw_fn_rd2 (k := S.next) (j := S.next + 1) (by (first | (simp (disch := first | decide | omega | (simp only [nx]; first | done | omega)) only [go_sem]; first | done | rfl) | rfl)) (by (first | (simp (disch := first | decide | omega | (simp only [nx]; first | done | omega)) only [go_sem]; first | done | rfl) | rfl)) (by omega), rfl, ?_⟩
  exact ((((St.Sub.refl S).add hS _).add hS _).drop hS (Nat.le_refl _)).drop hS (Nat.le_succ _)

end Go.Proofs.YtonncfminojejaaGreatDoor

namespace Go.Proofs.YtonncfminojejaaGreatDoor
open Go.RowKit
theorem dcalls_argfrz {P : Program} {g : FuncId} {args : List D} {S : St} {K : D → St → Prop} (h : DCalls P g (frzL args) S K) : DCalls P g args S K := fun base η w vs hM hr => h base η w vs hM hr.frz
theorem dpure_frz {P : Program} {g : FuncId} {args : List D} {r : D} (hc : r.closed) (h : ∀ S : St, S.WF → DCalls P g args S fun d T => d.frz = r ∧ S.Sub T) : DPure P g args r := fun S base η w vs hM hr =>
  calls_fin ((h S hM.fresh).mono fun d T ⟨e, hs⟩ => DFin.t ⟨r, S, e ▸ DLe.frz d, D.all_mono (fun _ h => h.elim) hc, hs.next, Nat.le_refl _, fun k o hk => ⟨hs.ob k o hk, St.WF.lt (S := S) hM.fresh hk, fun _ _ _ => .inl hk⟩, rfl, rfl⟩) base η w vs hM hr
section
variable {P : Program} {f : Fm} {S : St} {Q : DQ}
theorem dwpR_seq (x y : Code) : dwpR P (.seq x y) Q f S = dwpR P x (DQ.then (dwpR P y Q) Q) f S := Eq.trans (Eq.refl _) (Eq.refl _)
theorem dwpR_block (id : Nat) (c : Code) : dwpR P (.block id c) Q f S = dwpR P c (DQ.block id Q) f S := Eq.trans (Eq.refl _) (Eq.refl _)
theorem dwpR_region (id : Nat) (ops : Array Oper) (d : Bool) : dwpR P (.region id ops d) Q f S = dwp P (.region id ops d) Q f S := Eq.trans (Eq.refl _) (Eq.refl _)
theorem dwpR_cond (g : Operand) (x y : Code) : dwpR P (.cond g x y) Q f S = dwp P (.cond g x y) Q f S := Eq.trans (Eq.refl _) (Eq.refl _)
theorem dwpR_loop (c : Code) : dwpR P (.loop c) Q f S = dwp P (.loop c) Q f S := Eq.trans (Eq.refl _) (Eq.refl _)
theorem dwpR_ret : dwpR P .ret Q f S = Q .ret f S := Eq.trans (Eq.refl _) (Eq.refl _)
theorem dwpR_skip : dwpR P .skip Q f S = Q .normal f S := Eq.trans (Eq.refl _) (Eq.refl _)
attribute [go_sem] dwpR_seq dwpR_block dwpR_region dwpR_cond dwpR_loop dwpR_ret dwpR_skip
theorem drange_mk {g : Operand} {p : Tmp} {assign body : Code} {gf : FuncId} {caps : List D} (N : Nat) (x : Nat → D) (I : Nat → St → Prop) (hg : ev f g = .fn (.func gf) [] caps) (hs : DSeq P gf caps S N x) (h0 : I 0 S)
    (hr : ∀ i T, i < N → T.WF → I i T → dwp P (.seq assign body) (fun e _ T' => e = .normal ∧ I (i + 1) T') (put f (some p) (x i)) T) (hk : ∀ T, T.WF → I N T → Q .normal f T) : dwpR P (.rangeFunc g #[p] assign body) Q f S := ⟨gf, caps, N, x, I, hg, hs, h0, hr, hk⟩
end
def chunk8 {α : Type} (l : List α) (i : Nat) : List α := (l.drop (8 * i)).take 8
def chunks8 {α : Type} (l : List α) : List (List α) := (List.range ((l.length + 7) / 8)).map (chunk8 l)
def wantM (l : List H32) : DMs := ⟨2, false, zF, l, []⟩
def wantsM (l : List H32) : List DMs := (chunks8 (sortH l)).map wantM
theorem chunk8_pos {α : Type} {l : List α} {i : Nat} (h : i < (l.length + 7) / 8) : 0 < (chunk8 l i).length ∧ (chunk8 l i).length ≤ 8 := by
  rw [chunk8, List.length_take, List.length_drop]; omega
theorem chunk8_map {α β : Type} (f : α → β) (l : List α) (i : Nat) : ((l.map f).drop (8 * i)).take 8 = (chunk8 l i).map f := by
  rw [chunk8, List.map_take, List.map_drop]
def encW (l : List H32) : D := .agg (.v (.int .i64 2) :: .v (.bool false) :: (zF.1.map bD ++ [.sl .no (l.map encH), .sl .full []]))
theorem frz_Es (l : List (List UInt8)) : frzL (l.map encB) = l.map encB := by
  rw [frzL_map, List.map_map]
  exact List.map_congr_left fun b _ => frz_encB b
theorem frz_agg (l : List D) : (D.agg l).frz = .agg (frzL l) := by simp only [D.frz]
theorem frzL_append (a b : List D) : frzL (a ++ b) = frzL a ++ frzL b := by rw [frzL_map, frzL_map, frzL_map, List.map_append]
theorem frz_encW (l : List H32) : (encW l).frz = encMs (wantM l) := by
  simp only [encW, encMs, msCs, msT, wantM, frz_agg, frzL, D.frz, frzL_append, frz_bB, frz_Hs, List.map_nil]
theorem closed_Es (l : List (List UInt8)) : (D.sl .no (l.map encB)).closed := by
  simp only [D.closed, D.all, Own.all, true_and]
  refine allL_iff.2 fun d hd => ?_
  obtain ⟨b, _, rfl⟩ := List.mem_map.1 hd
  exact closed_bB b
theorem closed_encMs (m : DMs) : (encMs m).closed := by
  simp only [D.closed, encMs, msCs, D.all, allL, true_and]
  refine allL_iff.2 fun d hd => ?_
  rcases List.mem_append.1 hd with h | h
  · obtain ⟨b, _, rfl⟩ := List.mem_map.1 h; simp [bD, D.all]
  · rcases List.mem_cons.1 h with rfl | h
    · exact closed_Hs m.ids
    · obtain rfl := List.mem_singleton.1 h
      exact closed_Es m.es
theorem closed_Ms (l : List DMs) : (D.sl .no (l.map encMs)).closed := by
  simp only [D.closed, D.all, Own.all, true_and]
  refine allL_iff.2 fun d hd => ?_
  obtain ⟨b, _, rfl⟩ := List.mem_map.1 hd
  exact closed_encMs b
theorem agg_W (l : List H32) : D.agg [.v (.int .i64 2), .v (.bool false), D.v (.int .u8 0), D.v (.int .u8 0), D.v (.int .u8 0), D.v (.int .u8 0), D.v (.int .u8 0), D.v (.int .u8 0), D.v (.int .u8 0), D.v (.int .u8 0), D.v (.int .u8 0), D.v (.int .u8 0), D.v (.int .u8 0), D.v (.int .u8 0), D.v (.int .u8 0), D.v (.int .u8 0), D.v (.int .u8 0), D.v (.int .u8 0), D.v (.int .u8 0), D.v (.int .u8 0), D.v (.int .u8 0), D.v (.int .u8 0), D.v (.int .u8 0), D.v (.int .u8 0), D.v (.int .u8 0), D.v (.int .u8 0), D.v (.int .u8 0), D.v (.int .u8 0), D.v (.int .u8 0), D.v (.int .u8 0), D.v (.int .u8 0), D.v (.int .u8 0), D.v (.int .u8 0), D.v (.int .u8 0), D.v (.int .u8 0), D.v (.int .u8 0), D.v (.int .u8 0), D.v (.int .u8 0), D.v (.int .u8 0), D.v (.int .u8 0), D.v (.int .u8 0), D.v (.int .u8 0), D.v (.int .u8 0), D.v (.int .u8 0), D.v (.int .u8 0), D.v (.int .u8 0), D.v (.int .u8 0), D.v (.int .u8 0), D.v (.int .u8 0), D.v (.int .u8 0), D.v (.int .u8 0), D.v (.int .u8 0), D.v (.int .u8 0), D.v (.int .u8 0), D.v (.int .u8 0), D.v (.int .u8 0), D.v (.int .u8 0), D.v (.int .u8 0), D.v (.int .u8 0), D.v (.int .u8 0), D.v (.int .u8 0), D.v (.int .u8 0), D.v (.int .u8 0), D.v (.int .u8 0), D.v (.int .u8 0), D.v (.int .u8 0), .sl .no (l.map encH), .sl .full []] = encW l := by kernel_rfl
theorem cl_encW (l : List H32) : (encW l).cells.length = 68 := by show (_ :: _ :: (_ ++ _)).length = 68; simp [zF]
theorem okCell_encW (l : List H32) : (encW l).okCell = true := rfl
theorem width_encW (l : List H32) : (encW l).width = 68 := by show (_ :: _ :: (_ ++ _)).length = 68; simp [zF]
theorem elMs : elT Tryz.prog 46 = some 28 := by kernel_rfl
theorem szMs : szOf Tryz.prog 28 = 68 := by kernel_rfl
theorem byMs : bytesOf Tryz.prog 28 = 128 := by kernel_rfl
theorem zeMs : zeroT Tryz.prog 28 = true := by kernel_rfl
theorem elEs : elT Tryz.prog 26 = some 22 := by kernel_rfl
theorem szEs : szOf Tryz.prog 22 = 1 := by kernel_rfl
theorem byEs : bytesOf Tryz.prog 22 = 24 := by kernel_rfl
theorem zeEs : zeroT Tryz.prog 22 = true := by kernel_rfl
section
set_option maxRecDepth 200000
set_option maxHeartbeats 8000000
theorem cloneHs_d (own : Own) (l : List H32) (h0 : 0 < l.length) (hl : l.length ≤ 1000000) : DPure Tryz.prog 57 [.sl own (l.map encH)] (.sl .no (l.map encH)) := by
  refine dpure_of_dwp mixed Tryz.func57 rfl (fun _ _ => by kernel_rfl) (rs := [.tmp 2]) rfl (by kernel_rfl) (closed_Hs _) (fun S hS => ?_)
  (simp (disch := first | decide | omega | (simp only [nx]; first | done | omega)) only [go_sem]; (repeat with_reducible refine aI ?_))
  refine app_more elHs zeHs (.inl rfl) (fun _ h => by cases h) (by rw [szHs]; exact wHs l) (by simp only [List.length_nil, List.length_map]; omega) (by simp only [List.length_nil, List.length_map, byHs]; omega) ?_
  (simp (disch := first | decide | omega | (simp only [nx]; first | done | omega)) only [go_sem, List.nil_append]; (repeat with_reducible refine aI ?_))
  refine ⟨?_, St.Sub.grow (St.Sub.refl S) hS (fun _ h => by cases h) _ _⟩
  simp only [D.frz, frz_Hs]
structure OutM (k : Nat) (S : St) (es : List D) (T : St) : Prop where
  ex : ∃ own, T.ob k = some (.box 46 [.sl own es]) ∧ ((own = .full ∧ es = []) ∨ ∃ g, own = .row g ∧ k ≠ g ∧ S.next ≤ g ∧ T.ob g = some (.row 28 es.length))
  sub : S.Sub T
  ge : S.next ≤ k
theorem dapp_ms {S : St} {ty : TypeId} {own own2 : Own} {es : List D} {o : D} {K : D → St → Prop} (h : (own = .full ∧ es = []) ∨ ∃ g, own = .row g ∧ S.ob g = some (.row 28 es.length)) (hl : es.length ≤ 1000000) (hw : ∀ d ∈ es, d.width = 68) (ho : o.width = 68)
    (k : K (.sl (.row S.next) (es ++ [o])) (S.grow own 28 (es.length + 1))) : dapp Tryz.prog S 46 46 ty (.sl own es) (.sl own2 [o]) K := by
  refine dapp_row ?_
  simp only [dappend, elMs, zeMs, byMs, szMs, true_and, Option.isSome_some, List.length_cons, List.length_nil]
  refine ⟨hw, fun d hd => by obtain rfl := List.mem_singleton.1 hd; exact ho, ?_, by omega, by omega, k⟩
  rcases h with ⟨rfl, rfl⟩ | ⟨g, rfl, h⟩
  · trivial
  · exact h
theorem OutM.app {k : Nat} {S T : St} {es : List D} {own : Own} {o : D} (hT : T.WF) (hS : S.WF) (h : OutM k S es T) (hk : T.ob k = some (.box 46 [.sl own es])) : OutM k S (es ++ [o]) ((T.grow own 28 (es.length + 1)).set k (.box 46 [.sl (.row T.next) (es ++ [o])])) := by
  obtain ⟨own', h1, h2⟩ := h.ex
  rw [h1] at hk
  injection hk with hk
  injection hk with _ hk
  injection hk with hk _
  injection hk with hk _
  subst hk
  have hkl := hT.lt h1
  have hge := h.ge
  have hnx := h.sub.next
  refine ⟨⟨.row T.next, by simp [St.set], .inr ⟨T.next, rfl, by omega, by omega, ?_⟩⟩, ?_, hge⟩
  · have : T.next ≠ k := by omega
    rcases h2 with ⟨rfl, rfl⟩ | ⟨g, rfl, _⟩ <;> simp [St.grow, St.leave, St.add, St.set, St.drop, this]
  · have hg : S.Sub (T.grow own' 28 (es.length + 1)) := by
      rcases h2 with ⟨rfl, rfl⟩ | ⟨g, rfl, _, hg, _⟩
      · exact h.sub.add hS _
      · exact (h.sub.drop hS hg).add hS _
    exact hg.set hS hge _
theorem OutM.keep {k : Nat} {S T : St} {es : List D} {own : Own} (hT : T.WF) (h : OutM k S es T) (hk : T.ob k = some (.box 46 [.sl own es])) (e : TypeId) (n : Nat) : (T.grow own e n).ob k = some (.box 46 [.sl own es]) := by
  obtain ⟨own', h1, h2⟩ := h.ex
  have hkl := hT.lt hk
  rw [h1] at hk
  injection hk with hk
  injection hk with _ hk
  injection hk with hk _
  injection hk with hk _
  subst hk
  have h3 : k ≠ T.next := by omega
  rcases h2 with ⟨rfl, rfl⟩ | ⟨g, rfl, hkg, _⟩
  · simp [St.grow, St.leave, St.add, h3, h1]
  · simp [St.grow, St.leave, St.add, St.drop, h3, hkg, h1]
theorem chunks8_take {α : Type} (l : List α) {i : Nat} (h : i < (l.length + 7) / 8) : (chunks8 l).take (i + 1) = (chunks8 l).take i ++ [chunk8 l i] := by
  have : i < (chunks8 l).length := by simpa [chunks8] using h
  rw [List.take_succ_eq_append_getElem this]
  simp [chunks8]
theorem chunks8_length {α : Type} (l : List α) : (chunks8 l).length = (l.length + 7) / 8 := by simp [chunks8]
theorem wants_d (own : Own) (l : List H32) (hl : l.length ≤ 1000000) : DPure Tryz.prog 18 [.sl own (l.map encH)] (.sl .no ((wantsM l).map encMs)) := by
  refine dpure_frz (closed_Ms _) fun S hS => ?_
  refine dcalls_range mixed Tryz.func18 rfl (fun _ _ => by kernel_rfl) (rs := [.tmp 2]) rfl (by kernel_rfl) fun _ => ?_
  (simp (disch := first | decide | omega | (simp only [nx]; first | done | omega)) only [go_sem]; (repeat with_reducible refine aI ?_))
  refine DCalls.of_pure (hsort_d own l hl) ?_
  (simp (disch := first | decide | omega | (simp only [nx]; first | done | omega)) only [go_sem]; (repeat with_reducible refine aI ?_))
  refine DCalls.mono (DCalls.wf (chunkH_d .no ((sortH l).map encH))) ?_
  rintro d T ⟨⟨rfl, hsub⟩, hT⟩
  have hsl := sortH_len l
  have hcl : (chunks8 (sortH l)).length = ((sortH l).length + 7) / 8 := chunks8_length _
  (simp (disch := first | decide | omega | (simp only [nx]; first | done | omega)) only [go_sem]; (repeat with_reducible refine aI ?_))
  refine drange_mk (((sortH l).length + 7) / 8) (fun i => .sl .no ((((sortH l).map encH).drop (8 * i)).take 8)) (fun i T' => OutM S.next S (((chunks8 (sortH l)).take i).map encW) T') (by (first | (simp (disch := first | decide | omega | (simp only [nx]; first | done | omega)) only [go_sem]; first | done | rfl) | rfl)) (by have := chunkH_seq (S := T) .no ((sortH l).map encH) (wHs _); rwa [List.length_map] at this) ?_ ?_ ?_
  · exact ⟨⟨.full, hsub.ob _ _ (by (first | (simp (disch := first | decide | omega | (simp only [nx]; first | done | omega)) only [go_sem]; first | done | rfl) | rfl)), .inl ⟨rfl, rfl⟩⟩, ((St.Sub.refl S).add hS _).trans hsub, Nat.le_refl _⟩
  · intro i T1 hi hT1 hI
    obtain ⟨own1, h1, h2⟩ := hI.ex
    have hkl := hT1.lt h1
    obtain ⟨hc0, hc8⟩ := chunk8_pos hi
    simp only [chunk8_map]
    generalize hes : ((chunks8 (sortH l)).take i).map encW = es at *
    have hel : es.length ≤ 1000000 := by rw [← hes, List.length_map, List.length_take]; omega
    have hew : ∀ d ∈ es, d.width = 68 := fun d hd => by rw [← hes] at hd; obtain ⟨m, _, rfl⟩ := List.mem_map.1 hd; exact width_encW m
    (simp (disch := first | decide | omega | (simp only [nx]; first | done | omega)) only [go_sem]; (repeat with_reducible refine aI ?_))
    refine ddraw_any (fun S' => S'.ob S.next = some (.box 46 [.sl own1 es])) 6 (by (first | (simp (disch := first | decide | omega | (simp only [nx]; first | done | omega)) only [go_sem, h1]; first | done | rfl) | rfl)) (by kernel_rfl) ?_
    (refine s_take 0 rfl (by kernel_rfl) (by kernel_rfl) (v := ?v1) (fun S' hz => dquietR_of ?h1) <| s_take 1 rfl (by kernel_rfl) (by kernel_rfl) (v := ?v2) (fun S' hz => dquietR_of ?h2) <| ?k2; (case h1 | h2 => ((simp (disch := first | decide | omega | (simp only [nx]; first | done | omega)) only [go_sem, hz]; (repeat with_reducible refine aI ?_)); first | done | exact rfl | omega)))
    (refine s_take 2 rfl (by kernel_rfl) (by kernel_rfl) (v := ?v3) (fun S' hz => dquietR_of ?h3) ?k3; (case h3 => ((simp (disch := first | decide | omega | (simp only [nx]; first | done | omega)) only [go_sem, hz]; (repeat with_reducible refine aI ?_)); refine dqgo_mk (cloneHs_d .no (chunk8 (sortH l) i) hc0 (by omega)) ?_; exact rfl)))
    (refine s_take 3 rfl (by kernel_rfl) (by kernel_rfl) (v := ?v4) (fun S' hz => dquietR_of ?h4) <| s_take 4 rfl (by kernel_rfl) (by kernel_rfl) (v := ?v5) (fun S' hz => dquietR_of ?h5) <| ?k5; (case h4 | h5 => ((simp (disch := first | decide | omega | (simp only [nx]; first | done | omega)) only [go_sem, agg_W, width_encW, okCell_encW, cl_encW, hz]; (repeat with_reducible refine aI ?_)); first | done | exact rfl | omega)))
    (refine s_split [5] (by kernel_rfl) (by simp) ?_; intro j_ hj_; obtain rfl : j_ = 5 := (by simpa using hj_); clear hj_; refine s_op rfl ?_; (simp (disch := first | decide | omega | (simp only [nx]; first | done | omega)) only [go_sem]; (repeat with_reducible refine aI ?_)))
    refine dapp_ms (h2.imp id fun ⟨g, e, _, _, h⟩ => ⟨g, e, h⟩) hel hew (width_encW _) ?_
    have hg := hI.keep hT1 h1 28 (es.length + 1)
    refine ⟨hg, ?_⟩
    (refine s_done (by kernel_rfl) ?_; (simp (disch := first | decide | omega | (simp only [nx]; first | done | omega)) only [go_sem, hg]; (repeat with_reducible refine aI ?_)))
    rw [chunks8_take _ hi, List.map_append, hes]
    exact hI.app hT1 hS h1
  · intro T1 hT1 hI
    obtain ⟨own1, h1, h2⟩ := hI.ex
    have et : (chunks8 (sortH l)).take (((sortH l).length + 7) / 8) = chunks8 (sortH l) := List.take_of_length_le (by omega)
    rw [et] at h1
    (simp (disch := first | decide | omega | (simp only [nx]; first | done | omega)) only [go_sem, h1]; (repeat with_reducible refine aI ?_))
    refine ⟨?_, hI.sub⟩
    simp only [D.frz, frzL_map, List.map_map, wantsM]
    congr 1
    exact List.map_congr_left fun m _ => frz_encW m
end
end Go.Proofs.YtonncfminojejaaGreatDoor
