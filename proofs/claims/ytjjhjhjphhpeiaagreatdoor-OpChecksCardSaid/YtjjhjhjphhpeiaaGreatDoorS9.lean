/- OpChecks answers true, whatever comes. Conditions: none but the statement's own. -/
import Derived.Test.YtjjhjhjphhpeiaaGreatDoorS8
import Derived.LaidEql
import Derived.Stop.Asserts
import Derived.RowKitTokens
import Derived.Test.YtjjhjhjphhpeiaaGreatDoorCards
import Derived.Test.YtjjhjhjphhpeiaaGreatDoorTie
import Derived.SevenTiedAt
import Derived.RowKit
set_option linter.unusedVariables false
set_option linter.unusedSimpArgs false
namespace Go.Proofs.YtjjhjhjphhpeiaaGreatDoor
open Go.RowKit
set_option linter.unusedSimpArgs false
set_option linter.unusedVariables false
/-- How an operation that came in reads. -/
structure InO (o : DOp) : Prop where
  names : ∀ p ∈ o.path, p.1.length ≤ maxLen
  val : okV o.val
  kind : I64 o.kind
  id : U64 (o.id : Int)
  after : U64 (o.after : Int)
def greatO (o : DOp) : Bool := greatP o.path || decide (roomV 12 o.val 300 < 0)
theorem InO.ok {o : DOp} (h : InO o) (hg : greatO o = false) : OkO o := by
  rw [greatO, Bool.or_eq_false_iff, greatP, Bool.or_eq_false_iff] at hg
  obtain ⟨⟨h1, _⟩, h2⟩ := hg
  have h1 := of_decide_eq_false h1
  have h2 := of_decide_eq_false h2
  have hw := (roomV_spec 12 o.val 300 (by omega)).1
  exact ⟨by omega, h.names, h.val, by omega, h.kind, h.id, h.after⟩
set_option maxRecDepth 200000 in
set_option maxHeartbeats 8000000 in
theorem greatO_d (o : DOp) (h : InO o) : DPure Tryz.prog 17 [encO o] (.v (.bool (greatO o))) := by
  refine dpure_of_dwp mixed Tryz.func17 rfl (fun _ _ => by kernel_rfl) (rs := [.tmp 2]) rfl (by kernel_rfl) trivial (fun S hS => ?_)
  (simp (disch := first | decide | omega | (simp only [nx]; first | done | omega)) only [go_sem, Nat.reduceMul, opCs]; (repeat (with_reducible refine And.intro (by first | omega | assumption | rfl) ?_)))
  refine DCalls.of_pure (greatP_d o.path .no) ?_
  cases hp : greatP o.path with
  | true =>
    (simp (disch := first | decide | omega | (simp only [nx]; first | done | omega)) only [go_sem, Nat.reduceMul]; (repeat (with_reducible refine And.intro (by first | omega | assumption | rfl) ?_)))
    refine ⟨?_, (by (repeat' first | assumption | exact St.Sub.refl _ | exact RowOk.sub (by assumption) (by assumption) | refine St.Sub.trans ?_ (RowOk.sub (by assumption) (by assumption)) | refine St.Sub.add ?_ ?_ _ | refine St.Sub.set ?_ ?_ ?_ _ | refine St.Sub.keep ?_ ?_ | refine St.WF.leave ?_ _ | refine St.WF.add ?_ _ | refine St.WF.set ?_ ?_ _ | refine St.WF.grow ?_ _ _ _ | refine St.WF.keep ?_ ?_ | (first | omega | (simp only [RowOk.lo, nx]; first | done | omega))))⟩
    rw [greatO, hp]; rfl
  | false =>
    (simp (disch := first | decide | omega | (simp only [nx]; first | done | omega)) only [go_sem, Nat.reduceMul]; (repeat (with_reducible refine And.intro (by first | omega | assumption | rfl) ?_)))
    refine DCalls.of_pure (greatV_d o.val h.val) ?_
    (simp (disch := first | decide | omega | (simp only [nx]; first | done | omega)) only [go_sem, Nat.reduceMul]; (repeat (with_reducible refine And.intro (by first | omega | assumption | rfl) ?_)))
    refine ⟨?_, (by (repeat' first | assumption | exact St.Sub.refl _ | exact RowOk.sub (by assumption) (by assumption) | refine St.Sub.trans ?_ (RowOk.sub (by assumption) (by assumption)) | refine St.Sub.add ?_ ?_ _ | refine St.Sub.set ?_ ?_ ?_ _ | refine St.Sub.keep ?_ ?_ | refine St.WF.leave ?_ _ | refine St.WF.add ?_ _ | refine St.WF.set ?_ ?_ _ | refine St.WF.grow ?_ _ _ _ | refine St.WF.keep ?_ ?_ | (first | omega | (simp only [RowOk.lo, nx]; first | done | omega))))⟩
    rw [greatO, hp]; rfl
def awS : DSch := .mk 6 [] [.mk 2 [] []]
def awV : DVal := .mk 6 0 [] [] [1, 2] [.mk 2 5 [] [] [] [], .mk 2 6 [] [] [] []]
def awW : DVal := .mk 6 0 [] [] [2, 1] [.mk 2 6 [] [] [] [], .mk 2 5 [] [] [] []]
def awO : DOp := ⟨4, [], 1, 2, zeroV⟩
theorem aw_int (n : Int) (h : I64 n) : okV (.mk 2 n [] [] [] []) := by
  rw [okV_eq]
  refine ⟨?_, h, by simp [DVal.s], by simp [DVal.names], by simp [DVal.names], by simp [DVal.ids], by simp [DVal.ids], by simp [DVal.parts], by simp [DVal.parts]⟩
  exact WalkArith.wf_i64 (by simp [DVal.kind])
theorem awV_ok : okV awV := by
  rw [okV_eq]
  refine ⟨WalkArith.wf_i64 (by simp [awV, DVal.kind]), WalkArith.wf_i64 (by simp [awV, DVal.n]), by simp [awV, DVal.s], by simp [awV, DVal.names], by simp [awV, DVal.names], ?_, by simp [awV, DVal.ids], by simp [awV, DVal.parts], ?_⟩
  · intro i hi
    simp only [awV, DVal.ids, List.mem_cons, List.not_mem_nil, or_false] at hi
    rcases hi with rfl | rfl <;> (unfold U64; decide)
  · intro p hp
    simp only [awV, DVal.parts, List.mem_cons, List.not_mem_nil, or_false] at hp
    rcases hp with rfl | rfl
    · exact aw_int 5 (WalkArith.wf_i64 (by omega))
    · exact aw_int 6 (WalkArith.wf_i64 (by omega))
theorem awS_ok : okS awS := by
  have h2 : okS (.mk 2 [] []) := by
    rw [okS_eq]
    exact ⟨WalkArith.wf_i64 (by simp [DSch.kind]), by simp [DSch.words], by simp [DSch.words], by simp [DSch.parts], by simp [DSch.parts]⟩
  rw [okS_eq]
  refine ⟨WalkArith.wf_i64 (by simp [awS, DSch.kind]), by simp [awS, DSch.words], by simp [awS, DSch.words], by simp [awS, DSch.parts], ?_⟩
  intro p hp
  simp only [awS, DSch.parts, List.mem_cons, List.not_mem_nil, or_false] at hp
  subst hp
  exact h2
theorem awO_ok : OkO awO := ⟨by simp [awO], by simp [awO], zeroV_ok, by simp [awO, zero_wt], WalkArith.wf_i64 (by simp [awO]), by simp only [awO]; unfold U64; decide, by simp only [awO]; unfold U64; decide⟩
theorem aw_chk : chkO awO awS = 0 := by
  have hr : rightO awO = true := by
    have hz : eqB awO.val zeroV = true := eqB_true rfl
    rw [rightO, if_neg (by decide), if_neg (by decide), if_neg (by decide), if_pos (show awO.kind = 4 from rfl), hz]
    decide
  have hs : rightS 5 awS = true := by kernel_rfl
  rw [chkO, if_pos ⟨hr, hs⟩]
  rfl
theorem aw_apply : applyV awS awV [awO] = awW := by
  have hf : fitsTop awV awS = true := by kernel_rfl
  rw [applyV, if_pos hf]
  show apS awS awV awO = awW
  rw [apS, if_pos aw_chk]
  rfl
set_option maxRecDepth 200000 in
set_option maxHeartbeats 8000000 in
theorem awake12_d : DPure Tryz.prog 18 [] (.v (.bool true)) := by
  have hap := applyAll_d awS awV [awO] .no awS_ok (by simp [awS, DSch.weight, DSch.weights]) awV_ok (by simp [awV, DVal.weight, DVal.weights]) (by simp) (by
    intro o ho
    rw [List.mem_singleton] at ho
    subst ho
    exact awO_ok)
  rw [aw_apply] at hap
  refine dpure_of_dwp mixed Tryz.func18 rfl (fun _ _ => by kernel_rfl) (rs := [.tmp 0]) rfl (by kernel_rfl) trivial (fun S hS => ?_)
  (simp (disch := first | decide | omega | (simp only [nx]; first | done | omega)) only [go_sem, Nat.reduceMul]; (repeat (with_reducible refine And.intro (by first | omega | assumption | rfl) ?_)))
  refine DCalls.of_pure (DPure.weak hap (by simp only [frzL, D.frz, encV_eq, encS_eq]; rfl)) ?_
  have b22 : (((2 : Nat) : Int) == 2) = true := rfl
  have e4 : (encV awW).cells.getD 4 undefD = .sl .no [.v (.int .u64 2), .v (.int .u64 1)] := rfl
  have e5 : (encV awW).cells.getD 5 undefD = .sl .no [encV (.mk 2 6 [] [] [] []), encV (.mk 2 5 [] [] [] [])] := rfl
  (simp (disch := first | decide | omega | (simp only [nx]; first | done | omega)) only [go_sem, Nat.reduceMul, e4, e5, b22, DVal.n]; (repeat (with_reducible refine And.intro (by first | omega | assumption | rfl) ?_)))
  refine ⟨?_, (by (repeat' first | assumption | exact St.Sub.refl _ | exact RowOk.sub (by assumption) (by assumption) | refine St.Sub.trans ?_ (RowOk.sub (by assumption) (by assumption)) | refine St.Sub.add ?_ ?_ _ | refine St.Sub.set ?_ ?_ ?_ _ | refine St.Sub.keep ?_ ?_ | refine St.WF.leave ?_ _ | refine St.WF.add ?_ _ | refine St.WF.set ?_ ?_ _ | refine St.WF.grow ?_ _ _ _ | refine St.WF.keep ?_ ?_ | (first | omega | (simp only [RowOk.lo, nx]; first | done | omega))))⟩
  rfl
end Go.Proofs.YtjjhjhjphhpeiaaGreatDoor

namespace Go.Proofs.YtjjhjhjphhpeiaaGreatDoor
open Go.ChangeShapes Go.WideShapes Go.ChangeAt Go.RowKit Go.Deep Go.Joins
section
variable {H : Type} {enc : TypeId × Value → H} {w : World}
theorem trod_struct5 {P : Program} {t : TypeId} {f0 f1 f2 f3 f4 : Field} {fuel : Nat} {cs : List Value} {x : DataW H × List MemPlace} (ht : P.underlying t = some (.struct #[f0, f1, f2, f3, f4])) (h : DataW.trod enc P w 0 (fun _ => true) true fuel t cs = some x) :
    ∃ y0 y1 y2 y3 y4 n, x.1 = .agg [y0.1, y1.1, y2.1, y3.1, y4.1] ∧ cs.length = P.cellsOf t ∧ DataW.trod enc P w 0 (fun _ => true) true n f0.type ((cs.drop f0.offset).take (P.cellsOf f0.type)) = some y0 ∧
      DataW.trod enc P w 0 (fun _ => true) true n f1.type ((cs.drop f1.offset).take (P.cellsOf f1.type)) = some y1 ∧ DataW.trod enc P w 0 (fun _ => true) true n f2.type ((cs.drop f2.offset).take (P.cellsOf f2.type)) = some y2 ∧
      DataW.trod enc P w 0 (fun _ => true) true n f3.type ((cs.drop f3.offset).take (P.cellsOf f3.type)) = some y3 ∧ DataW.trod enc P w 0 (fun _ => true) true n f4.type ((cs.drop f4.offset).take (P.cellsOf f4.type)) = some y4 := by
  obtain ⟨xs, n, _, rfl, hl, hlen, hf⟩ := DataW.trod_struct ht h
  match xs, hlen with
  | [y0, y1, y2, y3, y4], _ => exact ⟨y0, y1, y2, y3, y4, n, by simp, hl, by simpa using hf 0 f0 rfl, by simpa using hf 1 f1 rfl, by simpa using hf 2 f2 rfl, by simpa using hf 3 f3 rfl, by simpa using hf 4 f4 rfl⟩
/-- An operation's cells: what they stand for. -/
def IsOp (w : World) (o : DOp) (cs : List Value) : Prop := InO o ∧ ∀ (η : Names) (X : Nat → Nat → Prop), (∀ b i, X b i) → Rep Tryz.prog w η X (encO o) (.agg cs.toArray)
/-- A path's slice, as open_steps has it, from a cell. -/
theorem open_steps_cell {fuel : Nat} {u : Value} {x : DataW H × List MemPlace} (h : DataW.trod enc Tryz.prog w 0 (fun _ => true) true fuel 41 [u] = some x) (hs : Sized Tryz.prog 41 x.1) :
    ∃ l : List DStp, (∀ q ∈ l, q.1.length ≤ maxLen ∧ U64 (q.2 : Int)) ∧ ∀ (η : Names) (X : Nat → Nat → Prop), (∀ b i, X b i) → Rep Tryz.prog w η X (.sl .no (l.map encP)) u := by
  have elem : ∀ (fuel : Nat) (cs : List Value) (x : DataW H × List MemPlace) (b o : Nat), b < w.heap.size → DataW.trod enc Tryz.prog w 0 (fun _ => true) true fuel 79 cs = some x → Sized Tryz.prog 79 x.1 → cs.length = 2 → (∀ j u, cs[j]? = some u → w.cell? ⟨b, o + j, none⟩ = some u) → ∃ d, IsStep w b o d := fun fuel cs x b o hb h hs hlen hcell => by
    match cs, hlen with
    | [x0, x1], _ =>
      obtain ⟨y0, y1, n, hx, _, g0, g1⟩ := trod_struct2 Tryz.underlying79 h
      have k0 : Tryz.prog.cellsOf 9 = 1 := by kernel_rfl
      have k1 : Tryz.prog.cellsOf 42 = 1 := by kernel_rfl
      rw [hx] at hs
      simp only [k0, k1] at g0 g1
      obtain ⟨q1, e1, _, w1⟩ := DataW.trod_int Tryz.underlying42 g1
      obtain ⟨q2, e2, h2, w2⟩ := DataW.trod_string Tryz.underlying9 g0
      simp at e1 e2
      rw [sv_of] at e2
      have := bounds_u64 w1
      have hq : q1 = (q1.toNat : Int) := by omega
      refine ⟨(q2.data.toList, q1.toNat), (hcell 0 x0 rfl).trans (by rw [e2]), (hcell 1 x1 rfl).trans (by rw [e1]; unfold uv; rw [← hq]), ?_, by rw [← hq]; exact w1⟩
      show q2.data.toList.length ≤ maxLen
      simpa using w2
  obtain ⟨A, c, l, hu, hc, hr, hb⟩ := open_rows_trod (P := Tryz.prog) (size := 2) (bytes := 24) Tryz.underlying41 (by kernel_rfl) (by omega) (by kernel_rfl) (by omega) (IsStep w) elem h hs
  injection hu with hu _
  subst hu
  refine ⟨l, fun q hq => ?_, fun η X hX => ?_⟩
  · obtain ⟨i, hi, rfl⟩ := List.getElem_of_mem hq
    obtain ⟨b, o, _, _, hf⟩ := hr (by omega)
    exact (hf i _ (List.getElem?_eq_getElem hi)).2.2
  · rcases Nat.eq_zero_or_pos l.length with h0 | h0
    · obtain rfl : l = [] := List.eq_nil_of_length_eq_zero h0
      simp only [Rep, List.map_nil, List.length_nil]
      exact ⟨A, c, rfl, Nat.zero_le _, by omega, trivial, fun h => absurd h (by omega)⟩
    · obtain ⟨b, o, rfl, hbl, hf⟩ := hr h0
      refine rep_structs (F := (· < w.heap.size)) encP 2 (by omega) (fun b i _ => hX b i) (b := b) (o := o) (C := fun i => [sv (l.getD i default).1, uv (l.getD i default).2]) (fun _ => ⟨rfl, hbl⟩) (fun i a ha => ⟨rfl, fun j u hu => ?_⟩) (fun i a ha => ?_) (fun _ => rfl) hc (by omega)
      · have ha' : l.getD i default = a := by rw [List.getD_eq_getElem?_getD, ha]; rfl
        rw [ha'] at hu
        obtain ⟨h1, h2, _⟩ := hf i a ha
        match j, hu with
        | 0, hu => simp at hu; subst hu; exact h1
        | 1, hu => simp at hu; subst hu; exact h2
        | j + 2, hu => simp at hu
      · have ha' : l.getD i default = a := by rw [List.getD_eq_getElem?_getD, ha]; rfl
        rw [ha']
        simp only [encP, strD, u64D, Rep, RepL]
        exact ⟨_, rfl, ⟨_, _, rfl, rfl, _, _, rfl, rfl, rfl⟩, by simp [Value.oneCell']⟩
set_option maxRecDepth 20000 in
theorem open_op_trod {fuel : Nat} {cs : List Value} {x : DataW H × List MemPlace} (h : DataW.trod enc Tryz.prog w 0 (fun _ => true) true fuel 44 cs = some x) (hs : Sized Tryz.prog 44 x.1) : ∃ o, IsOp w o cs := by
  obtain ⟨y0, y1, y2, y3, y4, m, hx, hl, g0, g1, g2, g3, g4⟩ := trod_struct5 Tryz.underlying44 h
  have k0 : Tryz.prog.cellsOf 3 = 1 := by kernel_rfl
  have k1 : Tryz.prog.cellsOf 41 = 1 := by kernel_rfl
  have k2 : Tryz.prog.cellsOf 42 = 1 := by kernel_rfl
  have k3 : Tryz.prog.cellsOf 29 = 6 := by kernel_rfl
  have k4 : Tryz.prog.cellsOf 44 = 10 := by kernel_rfl
  rw [k4] at hl
  rw [hx] at hs
  match cs, hl with
  | [x0, x1, x2, x3, x4, x5, x6, x7, x8, x9], _ =>
    simp only [k0, k1, k2, k3] at g0 g1 g2 g3 g4
    obtain ⟨q0, e0, _, w0⟩ := DataW.trod_int Tryz.underlying3 g0
    obtain ⟨q2, e2, _, w2⟩ := DataW.trod_int Tryz.underlying42 g2
    obtain ⟨q3, e3, _, w3⟩ := DataW.trod_int Tryz.underlying42 g3
    simp at e0 e2 e3
    simp only [List.drop_succ_cons, List.drop_zero, List.take_succ_cons, List.take_zero] at g1 g4
    obtain ⟨l, hl1, hl2⟩ := open_steps_cell g1 (sized_each Tryz.underlying44 hs (j := 1) rfl rfl)
    obtain ⟨v, hv⟩ := open_value_trod _ _ _ _ (Nat.lt_succ_self _) g4 (sized_each Tryz.underlying44 hs (j := 4) rfl rfl)
    have b2 := bounds_u64 w2
    have b3 := bounds_u64 w3
    have n2 : ((q2.toNat : Nat) : Int) = q2 := Int.toNat_of_nonneg b2.1
    have n3 : ((q3.toNat : Nat) : Int) = q3 := Int.toNat_of_nonneg b3.1
    refine ⟨⟨q0, l, q2.toNat, q3.toNat, v⟩, ⟨fun p hp => (hl1 p hp).1, hv.ok, i64_of w0, by show U64 _; rw [n2]; exact w2, by show U64 _; rw [n3]; exact w3⟩, fun η X hX => ?_⟩
    have hr := rep_val (P := Tryz.prog) (w := w) (η := η) (X := X) (F := (· < w.heap.size)) (fun b i _ => hX b i) hv
    rw [← agg_encV v] at hr
    simp only [Rep] at hr
    obtain ⟨vs, h1, h2, h3⟩ := hr
    injection h1 with h1
    have h1' : vs = [x4, x5, x6, x7, x8, x9] := by
      have := congrArg Array.toList h1
      simpa using this.symm
    subst h1'
    simp only [encO, Rep]
    refine ⟨_, rfl, ?_, fun u hu => ?_⟩
    · simp only [opCs, RepL]
      refine ⟨x0, _, rfl, by simp only [Rep]; rw [e0], x1, _, rfl, hl2 η X hX, x2, _, rfl, by simp only [Rep]; rw [e2, n2], x3, _, rfl, by simp only [Rep]; rw [e3, n3], h2⟩
    · simp only [List.mem_cons, List.not_mem_nil, or_false] at hu
      rcases hu with rfl | rfl | rfl | rfl | hu
      · rw [e0]; rfl
      · have := hl2 η X hX
        simp only [Rep] at this
        obtain ⟨A, c, rfl, _⟩ := this
        rfl
      · rw [e2]; rfl
      · rw [e3]; rfl
      · exact h3 u (by simpa using hu)
end
end Go.Proofs.YtjjhjhjphhpeiaaGreatDoor

namespace Go.Proofs.YtjjhjhjphhpeiaaGreatDoor
open Go.RowKit
set_option linter.unusedSimpArgs false
set_option linter.unusedVariables false
/-- A slice's own row, from lo on. -/
def RowAt (lo : Nat) (own : Own) (n : Nat) (e : TypeId) (T : St) : Prop := (own = .full ∧ n = 0) ∨ ∃ g, own = .row g ∧ lo ≤ g ∧ T.ob g = some (.row e n)
/-- In T the variable o holds two slices of rows of their own. -/
structure Two (o lo : Nat) (e1 e2 : TypeId) (f : D → D → List D) (L1 L2 : List D) (o1 o2 : Own) (T : St) : Prop where
  box : T.ob o = some (.box 29 (f (.sl o1 L1) (.sl o2 L2)))
  r1 : RowAt lo o1 L1.length e1 T
  r2 : RowAt lo o2 L2.length e2 T
end Go.Proofs.YtjjhjhjphhpeiaaGreatDoor

namespace Go.Proofs.YtjjhjhjphhpeiaaGreatDoor
open Go.RowKit
set_option linter.unusedSimpArgs false
set_option linter.unusedVariables false
def valued (k : Int) : Bool := decide (k = 1) || decide (k = 2)
theorem refValued_d (k : Int) : DPure Tryz.prog 50 [.v (.int .i64 k)] (.v (.bool (valued k))) := by
  refine dpure_of_dwp mixed Tryz.func50 rfl (fun _ _ => by kernel_rfl) (rs := [.tmp 2]) rfl (by kernel_rfl) trivial (fun S hS => ?_)
  by_cases k1 : k = 1
  · have c1 : (k == 1) = true := by simp [k1]
    (simp (disch := first | decide | omega | (simp only [nx]; first | done | omega)) only [go_sem, Nat.reduceMul, c1]; (repeat (with_reducible refine And.intro (by first | omega | assumption | rfl) ?_)))
    refine ⟨?_, (by (repeat' first | assumption | exact St.Sub.refl _ | exact RowOk.sub (by assumption) (by assumption) | refine St.Sub.trans ?_ (RowOk.sub (by assumption) (by assumption)) | refine St.Sub.add ?_ ?_ _ | refine St.Sub.set ?_ ?_ ?_ _ | refine St.Sub.keep ?_ ?_ | refine St.WF.leave ?_ _ | refine St.WF.add ?_ _ | refine St.WF.set ?_ ?_ _ | refine St.WF.grow ?_ _ _ _ | refine St.WF.keep ?_ ?_ | (first | omega | (simp only [RowOk.lo, nx]; first | done | omega))))⟩
    rw [show valued k = true from by simp [valued, k1]]; rfl
  · have c1 : (k == 1) = false := by simp [k1]
    by_cases k2 : k = 2
    · have c2 : (k == 2) = true := by simp [k2]
      (simp (disch := first | decide | omega | (simp only [nx]; first | done | omega)) only [go_sem, Nat.reduceMul, c1, c2]; (repeat (with_reducible refine And.intro (by first | omega | assumption | rfl) ?_)))
      refine ⟨?_, (by (repeat' first | assumption | exact St.Sub.refl _ | exact RowOk.sub (by assumption) (by assumption) | refine St.Sub.trans ?_ (RowOk.sub (by assumption) (by assumption)) | refine St.Sub.add ?_ ?_ _ | refine St.Sub.set ?_ ?_ ?_ _ | refine St.Sub.keep ?_ ?_ | refine St.WF.leave ?_ _ | refine St.WF.add ?_ _ | refine St.WF.set ?_ ?_ _ | refine St.WF.grow ?_ _ _ _ | refine St.WF.keep ?_ ?_ | (first | omega | (simp only [RowOk.lo, nx]; first | done | omega))))⟩
      rw [show valued k = true from by simp [valued, k2]]; rfl
    · have c2 : (k == 2) = false := by simp [k2]
      (simp (disch := first | decide | omega | (simp only [nx]; first | done | omega)) only [go_sem, Nat.reduceMul, c1, c2]; (repeat (with_reducible refine And.intro (by first | omega | assumption | rfl) ?_)))
      refine ⟨?_, (by (repeat' first | assumption | exact St.Sub.refl _ | exact RowOk.sub (by assumption) (by assumption) | refine St.Sub.trans ?_ (RowOk.sub (by assumption) (by assumption)) | refine St.Sub.add ?_ ?_ _ | refine St.Sub.set ?_ ?_ ?_ _ | refine St.Sub.keep ?_ ?_ | refine St.WF.leave ?_ _ | refine St.WF.add ?_ _ | refine St.WF.set ?_ ?_ _ | refine St.WF.grow ?_ _ _ _ | refine St.WF.keep ?_ ?_ | (first | omega | (simp only [RowOk.lo, nx]; first | done | omega))))⟩
      rw [show valued k = false from by simp [valued, k1, k2]]; rfl
/-- An operation's kind, path and value. -/
theorem rightO_kind {o : DOp} (h : o.kind < 1 ∨ 4 < o.kind) : rightO o = false := by
  rw [rightO, if_neg (by omega), if_neg (by omega), if_neg (by omega), if_neg (by omega), Bool.and_false]
theorem RS.of_typS : ∀ (ps : List DStp) {s t : DSch}, RS s → typS ps s = some t → RS t ∧ True
  | [], s, t, h1, h2 => by injection h2 with h2; subst h2; exact ⟨h1, trivial⟩
  | p :: ps, s, t, h1, h2 => by
    rw [typS_cons] at h2
    cases hq : stepT s p with
    | none => rw [hq] at h2; cases h2
    | some u => rw [hq] at h2; exact RS.of_typS ps (h1.step hq) h2
theorem ne_swap (o : DOp) : ((o.after : Int) != (o.id : Int)) = ((o.id : Int) != (o.after : Int)) := by
  rw [u64_dne, u64_dne]; exact decide_eq_decide.2 ⟨fun h e => h e.symm, fun h e => h e.symm⟩
set_option maxRecDepth 200000 in
set_option maxHeartbeats 8000000 in
theorem refOpRight_d (o : DOp) (h : OkO o) : DPure Tryz.prog 20 [encO o] (.v (.bool (rightO o))) := by
  have hwt := h.wt
  have hpl := h.path
  have hdw := DVal.depth_weight o.val.depth o.val (Nat.le_refl _)
  refine dpure_of_dwp mixed Tryz.func20 rfl (fun _ _ => by kernel_rfl) (rs := [.tmp 2]) rfl (by kernel_rfl) trivial (fun S hS => ?_)
  by_cases r1 : o.kind < 1
  · have c1 : decide (o.kind < 1) = true := by simp [r1]
    (simp (disch := first | decide | omega | (simp only [nx]; first | done | omega)) only [go_sem, Nat.reduceMul, opCs, c1]; (repeat (with_reducible refine And.intro (by first | omega | assumption | rfl) ?_)))
    refine ⟨?_, (by (repeat' first | assumption | exact St.Sub.refl _ | exact RowOk.sub (by assumption) (by assumption) | refine St.Sub.trans ?_ (RowOk.sub (by assumption) (by assumption)) | refine St.Sub.add ?_ ?_ _ | refine St.Sub.set ?_ ?_ ?_ _ | refine St.Sub.keep ?_ ?_ | refine St.WF.leave ?_ _ | refine St.WF.add ?_ _ | refine St.WF.set ?_ ?_ _ | refine St.WF.grow ?_ _ _ _ | refine St.WF.keep ?_ ?_ | (first | omega | (simp only [RowOk.lo, nx]; first | done | omega))))⟩
    rw [rightO_kind (.inl r1)]; rfl
  have c1 : decide (o.kind < 1) = false := by simp; omega
  by_cases r2 : 4 < o.kind
  · have c2 : decide (4 < o.kind) = true := by simp [r2]
    (simp (disch := first | decide | omega | (simp only [nx]; first | done | omega)) only [go_sem, Nat.reduceMul, opCs, c1, c2]; (repeat (with_reducible refine And.intro (by first | omega | assumption | rfl) ?_)))
    refine ⟨?_, (by (repeat' first | assumption | exact St.Sub.refl _ | exact RowOk.sub (by assumption) (by assumption) | refine St.Sub.trans ?_ (RowOk.sub (by assumption) (by assumption)) | refine St.Sub.add ?_ ?_ _ | refine St.Sub.set ?_ ?_ ?_ _ | refine St.Sub.keep ?_ ?_ | refine St.WF.leave ?_ _ | refine St.WF.add ?_ _ | refine St.WF.set ?_ ?_ _ | refine St.WF.grow ?_ _ _ _ | refine St.WF.keep ?_ ?_ | (first | omega | (simp only [RowOk.lo, nx]; first | done | omega))))⟩
    rw [rightO_kind (.inr r2)]; rfl
  have c2 : decide (4 < o.kind) = false := by simp; omega
  (simp (disch := first | decide | omega | (simp only [nx]; first | done | omega)) only [go_sem, Nat.reduceMul, opCs, c1, c2]; (repeat (with_reducible refine And.intro (by first | omega | assumption | rfl) ?_)))
  refine DCalls.of_pure (refRight_d .no o.path (by omega) h.names) ?_
  cases hp : rightP o.path with
  | false =>
    (simp (disch := first | decide | omega | (simp only [nx]; first | done | omega)) only [go_sem, Nat.reduceMul]; (repeat (with_reducible refine And.intro (by first | omega | assumption | rfl) ?_)))
    refine ⟨?_, (by (repeat' first | assumption | exact St.Sub.refl _ | exact RowOk.sub (by assumption) (by assumption) | refine St.Sub.trans ?_ (RowOk.sub (by assumption) (by assumption)) | refine St.Sub.add ?_ ?_ _ | refine St.Sub.set ?_ ?_ ?_ _ | refine St.Sub.keep ?_ ?_ | refine St.WF.leave ?_ _ | refine St.WF.add ?_ _ | refine St.WF.set ?_ ?_ _ | refine St.WF.grow ?_ _ _ _ | refine St.WF.keep ?_ ?_ | (first | omega | (simp only [RowOk.lo, nx]; first | done | omega))))⟩
    rw [rightO, hp]; rfl
  | true =>
  have hsm := refSameV_d o.val zeroV h.val zeroV_ok
  have hv := refValRight_d o.val h.val (by omega)
  (simp (disch := first | decide | omega | (simp only [nx]; first | done | omega)) only [go_sem, Nat.reduceMul]; (repeat (with_reducible refine And.intro (by first | omega | assumption | rfl) ?_)))
  refine DCalls.of_pure (refValued_d o.kind) ?_
  by_cases kv : o.kind = 1 ∨ o.kind = 2
  · have ev : valued o.kind = true := by simp [valued, kv]
    (simp (disch := first | decide | omega | (simp only [nx]; first | done | omega)) only [go_sem, Nat.reduceMul, ev]; (repeat (with_reducible refine And.intro (by first | omega | assumption | rfl) ?_)))
    refine DCalls.of_pure hv ?_
    cases hr : rightV 5 o.val with
    | false =>
      (simp (disch := first | decide | omega | (simp only [nx]; first | done | omega)) only [go_sem, Nat.reduceMul]; (repeat (with_reducible refine And.intro (by first | omega | assumption | rfl) ?_)))
      refine ⟨?_, (by (repeat' first | assumption | exact St.Sub.refl _ | exact RowOk.sub (by assumption) (by assumption) | refine St.Sub.trans ?_ (RowOk.sub (by assumption) (by assumption)) | refine St.Sub.add ?_ ?_ _ | refine St.Sub.set ?_ ?_ ?_ _ | refine St.Sub.keep ?_ ?_ | refine St.WF.leave ?_ _ | refine St.WF.add ?_ _ | refine St.WF.set ?_ ?_ _ | refine St.WF.grow ?_ _ _ _ | refine St.WF.keep ?_ ?_ | (first | omega | (simp only [RowOk.lo, nx]; first | done | omega))))⟩
      rcases kv with k | k
      · rw [rightO, hp, if_pos k, hr]; simp; rfl
      · rw [rightO, hp, if_neg (by omega), if_pos k, hr]; simp; rfl
    | true =>
    (simp (disch := first | decide | omega | (simp only [nx]; first | done | omega)) only [go_sem, Nat.reduceMul]; (repeat (with_reducible refine And.intro (by first | omega | assumption | rfl) ?_)))
    refine DCalls.of_pure (refValued_d o.kind) ?_
    rcases kv with k1 | k2
    · have c1 : (o.kind == 1) = true := by simp [k1]
      by_cases i0 : o.id = 0
      · by_cases a0 : o.after = 0
        · have d1 := decide_eq_true i0
          have d2 := decide_eq_true a0
          (simp (disch := first | decide | omega | (simp only [nx]; first | done | omega)) only [go_sem, Nat.reduceMul, ev, c1, u64_d0, d1, d2]; (repeat (with_reducible refine And.intro (by first | omega | assumption | rfl) ?_)))
          refine ⟨?_, (by (repeat' first | assumption | exact St.Sub.refl _ | exact RowOk.sub (by assumption) (by assumption) | refine St.Sub.trans ?_ (RowOk.sub (by assumption) (by assumption)) | refine St.Sub.add ?_ ?_ _ | refine St.Sub.set ?_ ?_ ?_ _ | refine St.Sub.keep ?_ ?_ | refine St.WF.leave ?_ _ | refine St.WF.add ?_ _ | refine St.WF.set ?_ ?_ _ | refine St.WF.grow ?_ _ _ _ | refine St.WF.keep ?_ ?_ | (first | omega | (simp only [RowOk.lo, nx]; first | done | omega))))⟩
          rw [rightO, hp, if_pos k1, d1, d2, hr]; rfl
        · have d1 := decide_eq_true i0
          have d2 := decide_eq_false a0
          (simp (disch := first | decide | omega | (simp only [nx]; first | done | omega)) only [go_sem, Nat.reduceMul, ev, c1, u64_d0, d1, d2]; (repeat (with_reducible refine And.intro (by first | omega | assumption | rfl) ?_)))
          refine ⟨?_, (by (repeat' first | assumption | exact St.Sub.refl _ | exact RowOk.sub (by assumption) (by assumption) | refine St.Sub.trans ?_ (RowOk.sub (by assumption) (by assumption)) | refine St.Sub.add ?_ ?_ _ | refine St.Sub.set ?_ ?_ ?_ _ | refine St.Sub.keep ?_ ?_ | refine St.WF.leave ?_ _ | refine St.WF.add ?_ _ | refine St.WF.set ?_ ?_ _ | refine St.WF.grow ?_ _ _ _ | refine St.WF.keep ?_ ?_ | (first | omega | (simp only [RowOk.lo, nx]; first | done | omega))))⟩
          rw [rightO, hp, if_pos k1, d1, d2]; rfl
      · have d1 := decide_eq_false i0
        (simp (disch := first | decide | omega | (simp only [nx]; first | done | omega)) only [go_sem, Nat.reduceMul, ev, c1, u64_d0, d1]; (repeat (with_reducible refine And.intro (by first | omega | assumption | rfl) ?_)))
        refine ⟨?_, (by (repeat' first | assumption | exact St.Sub.refl _ | exact RowOk.sub (by assumption) (by assumption) | refine St.Sub.trans ?_ (RowOk.sub (by assumption) (by assumption)) | refine St.Sub.add ?_ ?_ _ | refine St.Sub.set ?_ ?_ ?_ _ | refine St.Sub.keep ?_ ?_ | refine St.WF.leave ?_ _ | refine St.WF.add ?_ _ | refine St.WF.set ?_ ?_ _ | refine St.WF.grow ?_ _ _ _ | refine St.WF.keep ?_ ?_ | (first | omega | (simp only [RowOk.lo, nx]; first | done | omega))))⟩
        rw [rightO, hp, if_pos k1, d1]; rfl
    · have c1 : (o.kind == 1) = false := by simp [k2]
      have c3 : (o.kind == 3) = false := by simp [k2]
      by_cases i0 : o.id ≠ 0
      · by_cases a0 : o.id ≠ o.after
        · have d1 := decide_eq_true i0
          have d2 := decide_eq_true a0
          (simp (disch := first | decide | omega | (simp only [nx]; first | done | omega)) only [go_sem, Nat.reduceMul, ev, c1, c3, u64_n0, ne_swap o, u64_dne, d1, d2]; (repeat (with_reducible refine And.intro (by first | omega | assumption | rfl) ?_)))
          refine ⟨?_, (by (repeat' first | assumption | exact St.Sub.refl _ | exact RowOk.sub (by assumption) (by assumption) | refine St.Sub.trans ?_ (RowOk.sub (by assumption) (by assumption)) | refine St.Sub.add ?_ ?_ _ | refine St.Sub.set ?_ ?_ ?_ _ | refine St.Sub.keep ?_ ?_ | refine St.WF.leave ?_ _ | refine St.WF.add ?_ _ | refine St.WF.set ?_ ?_ _ | refine St.WF.grow ?_ _ _ _ | refine St.WF.keep ?_ ?_ | (first | omega | (simp only [RowOk.lo, nx]; first | done | omega))))⟩
          rw [rightO, hp, if_neg (by omega), if_pos k2, d1, d2, hr]; rfl
        · have d1 := decide_eq_true i0
          have d2 := decide_eq_false a0
          (simp (disch := first | decide | omega | (simp only [nx]; first | done | omega)) only [go_sem, Nat.reduceMul, ev, c1, c3, u64_n0, ne_swap o, u64_dne, d1, d2]; (repeat (with_reducible refine And.intro (by first | omega | assumption | rfl) ?_)))
          refine ⟨?_, (by (repeat' first | assumption | exact St.Sub.refl _ | exact RowOk.sub (by assumption) (by assumption) | refine St.Sub.trans ?_ (RowOk.sub (by assumption) (by assumption)) | refine St.Sub.add ?_ ?_ _ | refine St.Sub.set ?_ ?_ ?_ _ | refine St.Sub.keep ?_ ?_ | refine St.WF.leave ?_ _ | refine St.WF.add ?_ _ | refine St.WF.set ?_ ?_ _ | refine St.WF.grow ?_ _ _ _ | refine St.WF.keep ?_ ?_ | (first | omega | (simp only [RowOk.lo, nx]; first | done | omega))))⟩
          rw [rightO, hp, if_neg (by omega), if_pos k2, d1, d2]; rfl
      · have d1 := decide_eq_false i0
        (simp (disch := first | decide | omega | (simp only [nx]; first | done | omega)) only [go_sem, Nat.reduceMul, ev, c1, c3, u64_n0, d1]; (repeat (with_reducible refine And.intro (by first | omega | assumption | rfl) ?_)))
        refine ⟨?_, (by (repeat' first | assumption | exact St.Sub.refl _ | exact RowOk.sub (by assumption) (by assumption) | refine St.Sub.trans ?_ (RowOk.sub (by assumption) (by assumption)) | refine St.Sub.add ?_ ?_ _ | refine St.Sub.set ?_ ?_ ?_ _ | refine St.Sub.keep ?_ ?_ | refine St.WF.leave ?_ _ | refine St.WF.add ?_ _ | refine St.WF.set ?_ ?_ _ | refine St.WF.grow ?_ _ _ _ | refine St.WF.keep ?_ ?_ | (first | omega | (simp only [RowOk.lo, nx]; first | done | omega))))⟩
        rw [rightO, hp, if_neg (by omega), if_pos k2, d1]; rfl
  · have ev : valued o.kind = false := by simp [valued]; omega
    have k1 : ¬ o.kind = 1 := by omega
    have k2 : ¬ o.kind = 2 := by omega
    have c1 : (o.kind == 1) = false := by simp [k1]
    (simp (disch := first | decide | omega | (simp only [nx]; first | done | omega)) only [go_sem, Nat.reduceMul, ev]; (repeat (with_reducible refine And.intro (by first | omega | assumption | rfl) ?_)))
    refine DCalls.of_pure (refValued_d o.kind) ?_
    (simp (disch := first | decide | omega | (simp only [nx]; first | done | omega)) only [go_sem, Nat.reduceMul, ev]; (repeat (with_reducible refine And.intro (by first | omega | assumption | rfl) ?_)))
    refine DCalls.of_pure (DPure.weak hsm (by simp only [frzL, frz_encV]; rfl)) ?_
    cases hs : eqB o.val zeroV with
    | false =>
      (simp (disch := first | decide | omega | (simp only [nx]; first | done | omega)) only [go_sem, Nat.reduceMul]; (repeat (with_reducible refine And.intro (by first | omega | assumption | rfl) ?_)))
      refine ⟨?_, (by (repeat' first | assumption | exact St.Sub.refl _ | exact RowOk.sub (by assumption) (by assumption) | refine St.Sub.trans ?_ (RowOk.sub (by assumption) (by assumption)) | refine St.Sub.add ?_ ?_ _ | refine St.Sub.set ?_ ?_ ?_ _ | refine St.Sub.keep ?_ ?_ | refine St.WF.leave ?_ _ | refine St.WF.add ?_ _ | refine St.WF.set ?_ ?_ _ | refine St.WF.grow ?_ _ _ _ | refine St.WF.keep ?_ ?_ | (first | omega | (simp only [RowOk.lo, nx]; first | done | omega))))⟩
      by_cases k : o.kind = 3
      · rw [rightO, hp, if_neg k1, if_neg k2, if_pos k, hs]; simp; rfl
      · rw [rightO, hp, if_neg k1, if_neg k2, if_neg k, if_pos (by omega), hs]; simp; rfl
    | true =>
    by_cases k3 : o.kind = 3
    · have c3 : (o.kind == 3) = true := by simp [k3]
      by_cases i0 : o.id ≠ 0
      · by_cases a0 : o.after = 0
        · have d1 := decide_eq_true i0
          have d2 := decide_eq_true a0
          (simp (disch := first | decide | omega | (simp only [nx]; first | done | omega)) only [go_sem, Nat.reduceMul, ev, c1, c3, u64_n0, u64_d0, d1, d2]; (repeat (with_reducible refine And.intro (by first | omega | assumption | rfl) ?_)))
          refine ⟨?_, (by (repeat' first | assumption | exact St.Sub.refl _ | exact RowOk.sub (by assumption) (by assumption) | refine St.Sub.trans ?_ (RowOk.sub (by assumption) (by assumption)) | refine St.Sub.add ?_ ?_ _ | refine St.Sub.set ?_ ?_ ?_ _ | refine St.Sub.keep ?_ ?_ | refine St.WF.leave ?_ _ | refine St.WF.add ?_ _ | refine St.WF.set ?_ ?_ _ | refine St.WF.grow ?_ _ _ _ | refine St.WF.keep ?_ ?_ | (first | omega | (simp only [RowOk.lo, nx]; first | done | omega))))⟩
          rw [rightO, hp, if_neg k1, if_neg k2, if_pos k3, d1, d2, hs]; rfl
        · have d1 := decide_eq_true i0
          have d2 := decide_eq_false a0
          (simp (disch := first | decide | omega | (simp only [nx]; first | done | omega)) only [go_sem, Nat.reduceMul, ev, c1, c3, u64_n0, u64_d0, d1, d2]; (repeat (with_reducible refine And.intro (by first | omega | assumption | rfl) ?_)))
          refine ⟨?_, (by (repeat' first | assumption | exact St.Sub.refl _ | exact RowOk.sub (by assumption) (by assumption) | refine St.Sub.trans ?_ (RowOk.sub (by assumption) (by assumption)) | refine St.Sub.add ?_ ?_ _ | refine St.Sub.set ?_ ?_ ?_ _ | refine St.Sub.keep ?_ ?_ | refine St.WF.leave ?_ _ | refine St.WF.add ?_ _ | refine St.WF.set ?_ ?_ _ | refine St.WF.grow ?_ _ _ _ | refine St.WF.keep ?_ ?_ | (first | omega | (simp only [RowOk.lo, nx]; first | done | omega))))⟩
          rw [rightO, hp, if_neg k1, if_neg k2, if_pos k3, d1, d2]; rfl
      · have d1 := decide_eq_false i0
        (simp (disch := first | decide | omega | (simp only [nx]; first | done | omega)) only [go_sem, Nat.reduceMul, ev, c1, c3, u64_n0, u64_d0, d1]; (repeat (with_reducible refine And.intro (by first | omega | assumption | rfl) ?_)))
        refine ⟨?_, (by (repeat' first | assumption | exact St.Sub.refl _ | exact RowOk.sub (by assumption) (by assumption) | refine St.Sub.trans ?_ (RowOk.sub (by assumption) (by assumption)) | refine St.Sub.add ?_ ?_ _ | refine St.Sub.set ?_ ?_ ?_ _ | refine St.Sub.keep ?_ ?_ | refine St.WF.leave ?_ _ | refine St.WF.add ?_ _ | refine St.WF.set ?_ ?_ _ | refine St.WF.grow ?_ _ _ _ | refine St.WF.keep ?_ ?_ | (first | omega | (simp only [RowOk.lo, nx]; first | done | omega))))⟩
        rw [rightO, hp, if_neg k1, if_neg k2, if_pos k3, d1]; rfl
    · have c3 : (o.kind == 3) = false := by simp [k3]
      have k4 : o.kind = 4 := by omega
      by_cases i0 : o.id ≠ 0
      · by_cases a0 : o.id ≠ o.after
        · have d1 := decide_eq_true i0
          have d2 := decide_eq_true a0
          (simp (disch := first | decide | omega | (simp only [nx]; first | done | omega)) only [go_sem, Nat.reduceMul, ev, c1, c3, u64_n0, ne_swap o, u64_dne, d1, d2]; (repeat (with_reducible refine And.intro (by first | omega | assumption | rfl) ?_)))
          refine ⟨?_, (by (repeat' first | assumption | exact St.Sub.refl _ | exact RowOk.sub (by assumption) (by assumption) | refine St.Sub.trans ?_ (RowOk.sub (by assumption) (by assumption)) | refine St.Sub.add ?_ ?_ _ | refine St.Sub.set ?_ ?_ ?_ _ | refine St.Sub.keep ?_ ?_ | refine St.WF.leave ?_ _ | refine St.WF.add ?_ _ | refine St.WF.set ?_ ?_ _ | refine St.WF.grow ?_ _ _ _ | refine St.WF.keep ?_ ?_ | (first | omega | (simp only [RowOk.lo, nx]; first | done | omega))))⟩
          rw [rightO, hp, if_neg k1, if_neg k2, if_neg k3, if_pos k4, d1, d2, hs]; rfl
        · have d1 := decide_eq_true i0
          have d2 := decide_eq_false a0
          (simp (disch := first | decide | omega | (simp only [nx]; first | done | omega)) only [go_sem, Nat.reduceMul, ev, c1, c3, u64_n0, ne_swap o, u64_dne, d1, d2]; (repeat (with_reducible refine And.intro (by first | omega | assumption | rfl) ?_)))
          refine ⟨?_, (by (repeat' first | assumption | exact St.Sub.refl _ | exact RowOk.sub (by assumption) (by assumption) | refine St.Sub.trans ?_ (RowOk.sub (by assumption) (by assumption)) | refine St.Sub.add ?_ ?_ _ | refine St.Sub.set ?_ ?_ ?_ _ | refine St.Sub.keep ?_ ?_ | refine St.WF.leave ?_ _ | refine St.WF.add ?_ _ | refine St.WF.set ?_ ?_ _ | refine St.WF.grow ?_ _ _ _ | refine St.WF.keep ?_ ?_ | (first | omega | (simp only [RowOk.lo, nx]; first | done | omega))))⟩
          rw [rightO, hp, if_neg k1, if_neg k2, if_neg k3, if_pos k4, d1, d2]; rfl
      · have d1 := decide_eq_false i0
        (simp (disch := first | decide | omega | (simp only [nx]; first | done | omega)) only [go_sem, Nat.reduceMul, ev, c1, c3, u64_n0, d1]; (repeat (with_reducible refine And.intro (by first | omega | assumption | rfl) ?_)))
        refine ⟨?_, (by (repeat' first | assumption | exact St.Sub.refl _ | exact RowOk.sub (by assumption) (by assumption) | refine St.Sub.trans ?_ (RowOk.sub (by assumption) (by assumption)) | refine St.Sub.add ?_ ?_ _ | refine St.Sub.set ?_ ?_ ?_ _ | refine St.Sub.keep ?_ ?_ | refine St.WF.leave ?_ _ | refine St.WF.add ?_ _ | refine St.WF.set ?_ ?_ _ | refine St.WF.grow ?_ _ _ _ | refine St.WF.keep ?_ ?_ | (first | omega | (simp only [RowOk.lo, nx]; first | done | omega))))⟩
        rw [rightO, hp, if_neg k1, if_neg k2, if_neg k3, if_pos k4, d1]; rfl
set_option maxRecDepth 200000 in
set_option maxHeartbeats 8000000 in
theorem refCheck_d (o : DOp) (s : DSch) (h : OkO o) (hs : okS s) (hsw : s.weight ≤ 1000) : DPure Tryz.prog 13 [encO o, encS s] (.v (.int .i64 ((chkO o s : Nat) : Int))) := by
  have hwt := h.wt
  have hpl := h.path
  have hdw := DVal.depth_weight o.val.depth o.val (Nat.le_refl _)
  have hsd := DSch.depth_weight s.depth s (Nat.le_refl _)
  refine dpure_of_dwp mixed Tryz.func13 rfl (fun _ _ => by kernel_rfl) (rs := [.tmp 4]) rfl (by kernel_rfl) trivial (fun S hS => ?_)
  (simp (disch := first | decide | omega | (simp only [nx]; first | done | omega)) only [go_sem, Nat.reduceMul]; (repeat (with_reducible refine And.intro (by first | omega | assumption | rfl) ?_)))
  refine DCalls.of_pure (refOpRight_d o h) ?_
  cases hr : rightO o with
  | false =>
    (simp (disch := first | decide | omega | (simp only [nx]; first | done | omega)) only [go_sem, Nat.reduceMul]; (repeat (with_reducible refine And.intro (by first | omega | assumption | rfl) ?_)))
    refine ⟨?_, (by (repeat' first | assumption | exact St.Sub.refl _ | exact RowOk.sub (by assumption) (by assumption) | refine St.Sub.trans ?_ (RowOk.sub (by assumption) (by assumption)) | refine St.Sub.add ?_ ?_ _ | refine St.Sub.set ?_ ?_ ?_ _ | refine St.Sub.keep ?_ ?_ | refine St.WF.leave ?_ _ | refine St.WF.add ?_ _ | refine St.WF.set ?_ ?_ _ | refine St.WF.grow ?_ _ _ _ | refine St.WF.keep ?_ ?_ | (first | omega | (simp only [RowOk.lo, nx]; first | done | omega))))⟩
    rw [chkO, if_neg (by rw [hr]; simp)]; rfl
  | true =>
  (simp (disch := first | decide | omega | (simp only [nx]; first | done | omega)) only [go_sem, Nat.reduceMul]; (repeat (with_reducible refine And.intro (by first | omega | assumption | rfl) ?_)))
  refine DCalls.of_pure (refSchRight_d s hs (by omega)) ?_
  cases hrs : rightS 5 s with
  | false =>
    (simp (disch := first | decide | omega | (simp only [nx]; first | done | omega)) only [go_sem, Nat.reduceMul]; (repeat (with_reducible refine And.intro (by first | omega | assumption | rfl) ?_)))
    refine ⟨?_, (by (repeat' first | assumption | exact St.Sub.refl _ | exact RowOk.sub (by assumption) (by assumption) | refine St.Sub.trans ?_ (RowOk.sub (by assumption) (by assumption)) | refine St.Sub.add ?_ ?_ _ | refine St.Sub.set ?_ ?_ ?_ _ | refine St.Sub.keep ?_ ?_ | refine St.WF.leave ?_ _ | refine St.WF.add ?_ _ | refine St.WF.set ?_ ?_ _ | refine St.WF.grow ?_ _ _ _ | refine St.WF.keep ?_ ?_ | (first | omega | (simp only [RowOk.lo, nx]; first | done | omega))))⟩
    rw [chkO, if_neg (by rw [hrs]; simp)]; rfl
  | true =>
  have hc : chkO o s = (match typS o.path s with | some t => if fitO o t = true then 0 else 6 | none => 6) := by rw [chkO, if_pos ⟨hr, hrs⟩]; rfl
  obtain ⟨hRS, hdep⟩ := RS.of_top hrs
  (simp (disch := first | decide | omega | (simp only [nx]; first | done | omega)) only [go_sem, Nat.reduceMul, opCs]; (repeat (with_reducible refine And.intro (by first | omega | assumption | rfl) ?_)))
  refine DCalls.of_pure (refType_d o.path .no s hs (by omega) (by omega)) ?_
  cases ht : typS o.path s with
  | none =>
    (simp (disch := first | decide | omega | (simp only [nx]; first | done | omega)) only [go_sem, Nat.reduceMul, tupS, Option.getD_none, Option.isSome_none]; (repeat (with_reducible refine And.intro (by first | omega | assumption | rfl) ?_)))
    refine ddraw_mk 39 (by kernel_rfl) ?_
    (simp (disch := first | decide | omega | (simp only [nx]; first | done | omega)) only [go_sem, Nat.reduceMul]; (repeat (with_reducible refine And.intro (by first | omega | assumption | rfl) ?_)))
    refine ⟨?_, (by (repeat' first | assumption | exact St.Sub.refl _ | exact RowOk.sub (by assumption) (by assumption) | refine St.Sub.trans ?_ (RowOk.sub (by assumption) (by assumption)) | refine St.Sub.add ?_ ?_ _ | refine St.Sub.set ?_ ?_ ?_ _ | refine St.Sub.keep ?_ ?_ | refine St.WF.leave ?_ _ | refine St.WF.add ?_ _ | refine St.WF.set ?_ ?_ _ | refine St.WF.grow ?_ _ _ _ | refine St.WF.keep ?_ ?_ | (first | omega | (simp only [RowOk.lo, nx]; first | done | omega))))⟩
    rw [hc, ht]; rfl
  | some t =>
  obtain ⟨hto, htw⟩ := typS_fine _ ht hs (by omega)
  have htd := DSch.depth_weight t.depth t (Nat.le_refl _)
  rw [ht] at hc
  simp only at hc
  by_cases k1 : o.kind = 1
  · have c1 : (o.kind == 1) = true := by simp [k1]
    have g1 : decide (1 < o.kind) = false := by simp; omega
    have c2 : (o.kind == 2) = false := by simp [k1]
    (simp (disch := first | decide | omega | (simp only [nx]; first | done | omega)) only [go_sem, Nat.reduceMul, tupS, Option.getD_some, Option.isSome_some, c1, c2, g1]; (repeat (with_reducible refine And.intro (by first | omega | assumption | rfl) ?_)))
    refine ddraw_mk 39 (by kernel_rfl) ?_
    (simp (disch := first | decide | omega | (simp only [nx]; first | done | omega)) only [go_sem, Nat.reduceMul, opCs, c1, c2, g1]; (repeat (with_reducible refine And.intro (by first | omega | assumption | rfl) ?_)))
    refine dqgo_mk (refFitsTop_d o.val t h.val hto (by omega) (by omega)) ?_
    have hf : fitO o t = fitsTop o.val t := by rw [fitO, if_pos k1]
    cases hft : fitsTop o.val t with
    | true =>
      (simp (disch := first | decide | omega | (simp only [nx]; first | done | omega)) only [go_sem, Nat.reduceMul, opCs, c1, c2, g1]; (repeat (with_reducible refine And.intro (by first | omega | assumption | rfl) ?_)))
      refine ⟨?_, (by (repeat' first | assumption | exact St.Sub.refl _ | exact RowOk.sub (by assumption) (by assumption) | refine St.Sub.trans ?_ (RowOk.sub (by assumption) (by assumption)) | refine St.Sub.add ?_ ?_ _ | refine St.Sub.set ?_ ?_ ?_ _ | refine St.Sub.keep ?_ ?_ | refine St.WF.leave ?_ _ | refine St.WF.add ?_ _ | refine St.WF.set ?_ ?_ _ | refine St.WF.grow ?_ _ _ _ | refine St.WF.keep ?_ ?_ | (first | omega | (simp only [RowOk.lo, nx]; first | done | omega))))⟩
      rw [hc, hf, hft]; rfl
    | false =>
      (simp (disch := first | decide | omega | (simp only [nx]; first | done | omega)) only [go_sem, Nat.reduceMul, opCs, c1, c2, g1]; (repeat (with_reducible refine And.intro (by first | omega | assumption | rfl) ?_)))
      refine ⟨?_, (by (repeat' first | assumption | exact St.Sub.refl _ | exact RowOk.sub (by assumption) (by assumption) | refine St.Sub.trans ?_ (RowOk.sub (by assumption) (by assumption)) | refine St.Sub.add ?_ ?_ _ | refine St.Sub.set ?_ ?_ ?_ _ | refine St.Sub.keep ?_ ?_ | refine St.WF.leave ?_ _ | refine St.WF.add ?_ _ | refine St.WF.set ?_ ?_ _ | refine St.WF.grow ?_ _ _ _ | refine St.WF.keep ?_ ?_ | (first | omega | (simp only [RowOk.lo, nx]; first | done | omega))))⟩
      rw [hc, hf, hft]; rfl
  have c1 : (o.kind == 1) = false := by simp [k1]
  have hk : 1 ≤ o.kind := by
    by_cases hh : 1 ≤ o.kind
    · exact hh
    · rw [rightO_kind (.inl (by omega))] at hr; cases hr
  have g1 : decide (1 < o.kind) = true := by simp; omega
  by_cases t6 : t.kind = 6
  · have c6 : (t.kind != 6) = false := by simp [t6]
    by_cases k2 : o.kind = 2
    · have c2 : (o.kind == 2) = true := by simp [k2]
      obtain ⟨hRt, _⟩ := RS.of_typS _ hRS ht
      have hp1 := hRt.here.2 t6
      have hp0 : 0 < t.parts.length := by omega
      have g0 := getD_map encS t.parts 0 hp0
      have hp0i : (0 : Int) < (t.parts.length : Int) := by omega
      have hto0 : okS t.parts[0] := ((okS_eq t).1 hto).2.2.2.2 _ (List.getElem_mem hp0)
      have htd0 := DSch.depth_part (List.getElem_mem hp0)
      (simp (disch := first | decide | omega | (simp only [nx]; first | done | omega)) only [go_sem, Nat.reduceMul, tupS, Option.getD_some, Option.isSome_some, c1, c2, g1, c6]; (repeat (with_reducible refine And.intro (by first | omega | assumption | rfl) ?_)))
      refine ddraw_mk 39 (by kernel_rfl) ?_
      (simp (disch := first | decide | omega | (simp only [nx]; first | done | omega)) only [go_sem, Nat.reduceMul, opCs, c1, c2, g1, c6, g0, hp0i]; (repeat (with_reducible refine And.intro (by first | omega | assumption | rfl) ?_)))
      refine dqgo_mk (refFitsTop_d o.val t.parts[0] h.val hto0 (by omega) (by omega)) ?_
      have hf : fitO o t = fitsTop o.val t.parts[0] := by rw [fitO, if_neg k1, if_pos t6, if_pos k2, getD_at hp0]
      cases hft : fitsTop o.val t.parts[0] with
      | true =>
        (simp (disch := first | decide | omega | (simp only [nx]; first | done | omega)) only [go_sem, Nat.reduceMul]; (repeat (with_reducible refine And.intro (by first | omega | assumption | rfl) ?_)))
        refine ⟨?_, (by (repeat' first | assumption | exact St.Sub.refl _ | exact RowOk.sub (by assumption) (by assumption) | refine St.Sub.trans ?_ (RowOk.sub (by assumption) (by assumption)) | refine St.Sub.add ?_ ?_ _ | refine St.Sub.set ?_ ?_ ?_ _ | refine St.Sub.keep ?_ ?_ | refine St.WF.leave ?_ _ | refine St.WF.add ?_ _ | refine St.WF.set ?_ ?_ _ | refine St.WF.grow ?_ _ _ _ | refine St.WF.keep ?_ ?_ | (first | omega | (simp only [RowOk.lo, nx]; first | done | omega))))⟩
        rw [hc, hf, hft]; rfl
      | false =>
        (simp (disch := first | decide | omega | (simp only [nx]; first | done | omega)) only [go_sem, Nat.reduceMul]; (repeat (with_reducible refine And.intro (by first | omega | assumption | rfl) ?_)))
        refine ⟨?_, (by (repeat' first | assumption | exact St.Sub.refl _ | exact RowOk.sub (by assumption) (by assumption) | refine St.Sub.trans ?_ (RowOk.sub (by assumption) (by assumption)) | refine St.Sub.add ?_ ?_ _ | refine St.Sub.set ?_ ?_ ?_ _ | refine St.Sub.keep ?_ ?_ | refine St.WF.leave ?_ _ | refine St.WF.add ?_ _ | refine St.WF.set ?_ ?_ _ | refine St.WF.grow ?_ _ _ _ | refine St.WF.keep ?_ ?_ | (first | omega | (simp only [RowOk.lo, nx]; first | done | omega))))⟩
        rw [hc, hf, hft]; rfl
    · have c2 : (o.kind == 2) = false := by simp [k2]
      (simp (disch := first | decide | omega | (simp only [nx]; first | done | omega)) only [go_sem, Nat.reduceMul, tupS, Option.getD_some, Option.isSome_some, c1, c2, g1, c6]; (repeat (with_reducible refine And.intro (by first | omega | assumption | rfl) ?_)))
      refine ddraw_mk 39 (by kernel_rfl) ?_
      (simp (disch := first | decide | omega | (simp only [nx]; first | done | omega)) only [go_sem, Nat.reduceMul, opCs, c1, c2, g1, c6]; (repeat (with_reducible refine And.intro (by first | omega | assumption | rfl) ?_)))
      refine ⟨?_, (by (repeat' first | assumption | exact St.Sub.refl _ | exact RowOk.sub (by assumption) (by assumption) | refine St.Sub.trans ?_ (RowOk.sub (by assumption) (by assumption)) | refine St.Sub.add ?_ ?_ _ | refine St.Sub.set ?_ ?_ ?_ _ | refine St.Sub.keep ?_ ?_ | refine St.WF.leave ?_ _ | refine St.WF.add ?_ _ | refine St.WF.set ?_ ?_ _ | refine St.WF.grow ?_ _ _ _ | refine St.WF.keep ?_ ?_ | (first | omega | (simp only [RowOk.lo, nx]; first | done | omega))))⟩
      have hf : fitO o t = true := by rw [fitO, if_neg k1, if_pos t6, if_neg k2]
      rw [hc, hf]; rfl
  · have c6 : (t.kind != 6) = true := by simp [t6]
    (simp (disch := first | decide | omega | (simp only [nx]; first | done | omega)) only [go_sem, Nat.reduceMul, tupS, Option.getD_some, Option.isSome_some, c1, c6, g1]; (repeat (with_reducible refine And.intro (by first | omega | assumption | rfl) ?_)))
    refine ddraw_mk 39 (by kernel_rfl) ?_
    (simp (disch := first | decide | omega | (simp only [nx]; first | done | omega)) only [go_sem, Nat.reduceMul, opCs, c1, c6, g1]; (repeat (with_reducible refine And.intro (by first | omega | assumption | rfl) ?_)))
    refine ⟨?_, (by (repeat' first | assumption | exact St.Sub.refl _ | exact RowOk.sub (by assumption) (by assumption) | refine St.Sub.trans ?_ (RowOk.sub (by assumption) (by assumption)) | refine St.Sub.add ?_ ?_ _ | refine St.Sub.set ?_ ?_ ?_ _ | refine St.Sub.keep ?_ ?_ | refine St.WF.leave ?_ _ | refine St.WF.add ?_ _ | refine St.WF.set ?_ ?_ _ | refine St.WF.grow ?_ _ _ _ | refine St.WF.keep ?_ ?_ | (first | omega | (simp only [RowOk.lo, nx]; first | done | omega))))⟩
    have hf : fitO o t = false := by rw [fitO, if_neg k1, if_neg t6]
    rw [hc, hf]; rfl
end Go.Proofs.YtjjhjhjphhpeiaaGreatDoor

namespace Go.Proofs.YtjjhjhjphhpeiaaGreatDoor
open Go.RowKit Go.Extern.Stop Go.Stop Go.Extern
set_option linter.unusedSimpArgs false
set_option linter.unusedVariables false
/-! The value that a tree without memory stands for. -/
mutual
def D.val : D → Option Value
  | .v x => some x
  | .ifc t d => (D.val d).map (Value.iface t ·)
  | .agg cs => (valL cs).bind fun vs => bif vs.all (·.oneCell') then some (.agg vs.toArray) else none
  | _ => none
def valL : List D → Option (List Value)
  | [] => some []
  | d :: l => (D.val d).bind fun x => (valL l).map (x :: ·)
end
section
variable {P : Program} {w : World} {η : Names} {X : Nat → Nat → Prop}
mutual
theorem rep_val_iff : ∀ {d : D} {x : Value}, D.val d = some x → ∀ {y : Value}, Rep P w η X d y ↔ y = x
  | .v x, _, h, y => by simp only [D.val, Option.some.injEq] at h; subst h; simp only [Rep]
  | .ifc t d, _, h, y => by
    simp only [D.val, Option.map_eq_some_iff] at h
    obtain ⟨z, h1, rfl⟩ := h
    simp only [Rep]
    constructor
    · rintro ⟨u, rfl, hu⟩
      rw [(rep_val_iff h1).1 hu]
    · rintro rfl
      exact ⟨z, rfl, (rep_val_iff h1).2 rfl⟩
  | .agg cs, _, h, y => by
    simp only [D.val, Option.bind_eq_some_iff] at h
    obtain ⟨vs, h1, h2⟩ := h
    cases hb : vs.all (·.oneCell') with
    | false => rw [hb] at h2; cases h2
    | true =>
      rw [hb] at h2
      simp only [cond_true, Option.some.injEq] at h2
      subst h2
      simp only [Rep]
      constructor
      · rintro ⟨us, rfl, hu, _⟩
        rw [(rep_valL_iff h1).1 hu]
      · rintro rfl
        exact ⟨vs, rfl, (rep_valL_iff h1).2 rfl, fun u hu => List.all_eq_true.1 hb u hu⟩
  | .tup _, _, h, _ => by simp [D.val] at h
  | .fn _ _ _, _, h, _ => by simp [D.val] at h
  | .loc _ _, _, h, _ => by simp [D.val] at h
  | .rd _ _, _, h, _ => by simp [D.val] at h
  | .sl _ _, _, h, _ => by simp [D.val] at h
  | .win _ _ _ _, _, h, _ => by simp [D.val] at h
theorem rep_valL_iff : ∀ {l : List D} {vs : List Value}, valL l = some vs → ∀ {us : List Value}, RepL P w η X l us ↔ us = vs
  | [], _, h, us => by simp only [valL, Option.some.injEq] at h; subst h; simp only [RepL]
  | d :: l, _, h, us => by
    simp only [valL, Option.bind_eq_some_iff, Option.map_eq_some_iff] at h
    obtain ⟨x, h1, xs, h2, rfl⟩ := h
    simp only [RepL]
    constructor
    · rintro ⟨y, ys, rfl, hy, hys⟩
      rw [(rep_val_iff h1).1 hy, (rep_valL_iff h2).1 hys]
    · rintro rfl
      exact ⟨x, xs, rfl, (rep_val_iff h1).2 rfl, (rep_valL_iff h2).2 rfl⟩
end
end
section
variable {P : Program} {S : St} {K : D → St → Prop}
/-- A call of an entry of the library's. -/
theorem dext {g : FuncId} {fn : Func} {e : Array Value → Sem Value} (hf : P.funcs[g]? = some fn) (hname : (fn.name == "runtime.NumGoroutine") = false) (hb : fn.body.isNone = true) (hn : Extern.findNext fn = none) (hx : Extern.find fn = some e) {args : List D}
    (h : ∀ base η w vs, Mem P base S η w → RepL P w η (Fix P S η) args vs → ∃ d S' η' v w', (e vs.toArray).run P w = .ok v w' ∧ K d S' ∧ Rep P w' η' (Fix P S' η') d v ∧ Goes P base S η w S' η' w') : DCalls P g args S K := fun base η w vs hM hr => by
  obtain ⟨d, S', η', v, w', h1, h2, h3, h4⟩ := h base η w vs hM hr
  refine .inr ⟨d, S', η', v, w', ?_, h2, h3, h4⟩
  rw [run_callFunc_extern hf hname hb hn hx, h1]
  rfl
/-- One that looks at no memory. -/
theorem dext_pure {g : FuncId} {fn : Func} {e : Array Value → Sem Value} (hf : P.funcs[g]? = some fn) (hname : (fn.name == "runtime.NumGoroutine") = false) (hb : fn.body.isNone = true) (hn : Extern.findNext fn = none) (hx : Extern.find fn = some e) {args : List D} {us : List Value} {r : Value} {d : D}
    (hv : valL args = some us) (h : ∀ w, (e us.toArray).run P w = .ok r w) (hd : D.val d = some r) (hk : K d S) : DCalls P g args S K :=
  dext hf hname hb hn hx fun base η w vs hM hr => by
    rw [(rep_valL_iff hv).1 hr]
    exact ⟨d, S, η, r, w, h w, hk, (rep_val_iff hd).2 rfl, Goes.refl hM⟩
/-- A method of a value without memory. -/
theorem dmeth_pure {t : TypeId} {d d' : D} {m : String} {g : FuncId} {x r : Value} (hd : D.val d = some x) (hd' : D.val d' = some r) (h : ∀ w, (method (P.types.size + Made.depth) t x m).run P w = .ok (g, r) w) : DMeth P t d m g d' := fun w η X v hr => by
  rw [(rep_val_iff hd).1 hr]
  exact ⟨r, h w, (rep_val_iff hd').2 rfl⟩
end
/-- A type, as a value; reflectlite's handle of it. -/
abbrev tyV (t : TypeId) : Value := .pointer (some ⟨1, t, none⟩)
abbrev tyD (t : TypeId) : D := .agg [.v (tyV t)]
abbrev rtD (t : TypeId) : D := .ifc 152 (tyD t)
theorem rlm (z : Sem Value) (f : TypeId → Addr → Nat → Nat → Sem Value) (v : Value) :
    ReflectliteValue.method z f #[v] = (do match ← ReflectliteValue.parts v with | none => z | some (t, a, fl) => f t a fl (fl % 32)) := rfl
theorem rls (v x : Value) : ReflectliteValue.set #[v, x] = (do
    let (some (dst, a, fl), some (src, b, _)) := (← ReflectliteValue.parts v, ← ReflectliteValue.parts x)
      | unsupported (.noEntry "extern/(internal/reflectlite.Value).Set.zeroValue")
    if fl / ReflectliteValue.flagAddr % 2 == 0 then unsupported (.noEntry "extern/(internal/reflectlite.Value).Set.unaddressable")
    let val ← loadVar src b
    if ← Rtype.directlyAssignable dst src then storeVar dst a val
    else if ← Rtype.implements dst src then
      if (← Rtype.kind src) == 20 then
        match val with
        | .nilIface => unsupported (.noEntry "extern/reflectlite: a nil value of one interface type handed on as a value of another")
        | _ => storeVar dst a val
      else storeVar dst a (.iface src val)
    else panicString ("reflectlite.Set: value of type " ++ (← Rtype.spelt src) ++ " is not assignable to type " ++ (← Rtype.spelt dst))
    pure (.tuple #[])) := rfl

section
variable {S : St} {K : D → St → Prop}
theorem unpackPEr (a : Addr) (w : World) : (ReflectliteValue.unpack (.iface 69 (.pointer (some a)))).run Tryz.prog w = .ok (.agg #[tyV 69, .pointer (some ⟨w.heap.size, 0, none⟩), .int .u64 150]) (w.alloc (.cells #[.pointer (some a)] 69)) := by kernel_rfl
theorem rlValueOfPEr {k off : Nat} (h : K (.agg [.v (tyV 69), .loc S.next 0, .v (.int .u64 150)]) (S.add (.box 69 [.loc k off]))) : DCalls Tryz.prog 69 [.ifc 69 (.loc k off)] S K :=
  dext (e := fun args => ReflectliteValue.unpack (args.getD 0 (.tuple #[]))) Tryz.func69 (by kernel_rfl) (by kernel_rfl) (by kernel_rfl) (by kernel_rfl) fun base η w vs hM hr => by
    simp only [RepL, Rep] at hr
    obtain ⟨_, _, rfl, ⟨_, rfl, b, hb, rfl⟩, rfl⟩ := hr
    have G := goes_name hM (.box 69 [.loc k off]) #[.pointer (some ⟨b, off, none⟩)] 69 (.inl ⟨_, [.pointer (some ⟨b, off, none⟩)], rfl, rfl, by simp only [RepL, Rep]; exact ⟨_, _, rfl, ⟨b, hb, rfl⟩, rfl⟩, fun x hx => by rw [List.mem_singleton] at hx; subst hx; rfl⟩)
    refine ⟨_, _, _, _, _, unpackPEr _ w, h, ?_, G⟩
    simp only [Rep, RepL]
    exact ⟨[_, _, _], rfl, ⟨_, _, rfl, rfl, _, _, rfl, ⟨w.heap.size, by simp only [Names.add, ↓reduceIte], rfl⟩, _, _, rfl, rfl, rfl⟩, fun x hx => by simp only [List.mem_cons, List.not_mem_nil, or_false] at hx; rcases hx with rfl | rfl | rfl <;> rfl⟩
theorem typePEr (a : Addr) (w : World) : (ReflectliteValue.methodAny (ReflectliteValue.valueError "reflectlite.Value.Type" 0) (fun t _ _ _ => ReflectliteType.toType t) #[.agg #[tyV 69, .pointer (some a), .int .u64 150]]).run Tryz.prog w = .ok (.iface 152 (.agg #[tyV 69])) w := by kernel_rfl
theorem rlTypePEr {k off : Nat} (h : K (rtD 69) S) : DCalls Tryz.prog 70 [.agg [.v (tyV 69), .loc k off, .v (.int .u64 150)]] S K :=
  dext (e := ReflectliteValue.methodAny (ReflectliteValue.valueError "reflectlite.Value.Type" 0) (fun t _ _ _ => ReflectliteType.toType t)) Tryz.func70 (by kernel_rfl) (by kernel_rfl) (by kernel_rfl) (by kernel_rfl) fun base η w vs hM hr => by
    simp only [RepL, Rep] at hr
    obtain ⟨_, _, rfl, ⟨_, rfl, ⟨_, _, rfl, rfl, _, _, rfl, ⟨b, hb, rfl⟩, _, _, rfl, rfl, rfl⟩, _⟩, rfl⟩ := hr
    exact ⟨_, S, η, _, w, typePEr _ w, h, (rep_val_iff (d := rtD 69) rfl).2 rfl, Goes.refl hM⟩
theorem partsPEr (a : Addr) (w : World) : (ReflectliteValue.parts (.agg #[tyV 69, .pointer (some a), .int .u64 150])).run Tryz.prog w = .ok (some (69, a, 150)) w := by kernel_rfl
theorem rlIsNilPEr {b k off : Nat} (hb : S.ob b = some (.box 69 [.loc k off])) (h : K (.v (.bool false)) S) : DCalls Tryz.prog 71 [.agg [.v (tyV 69), .loc b 0, .v (.int .u64 150)]] S K :=
  dext (e := ReflectliteValue.method (ReflectliteValue.valueError "reflectlite.Value.IsNil" 0) ReflectliteValue.isNil) Tryz.func71 (by kernel_rfl) (by kernel_rfl) (by kernel_rfl) (by kernel_rfl) fun base η w vs hM hr => by
    simp only [RepL, Rep] at hr
    obtain ⟨_, _, rfl, ⟨_, rfl, ⟨_, _, rfl, rfl, _, _, rfl, ⟨q, hq, rfl⟩, _, _, rfl, rfl, rfl⟩, _⟩, rfl⟩ := hr
    obtain ⟨us, g1, g2, g3⟩ := hM.box b _ _ q hb hq
    simp only [RepL, Rep] at g2
    obtain ⟨_, _, rfl, ⟨p, hp, rfl⟩, rfl⟩ := g2
    have ha : w.cell? ⟨q, 0, none⟩ = some (.pointer (some ⟨p, off, none⟩)) := by simp [World.cell?, g1]
    refine ⟨_, S, η, .bool false, w, ?_, h, by simp only [Rep], Goes.refl hM⟩
    rw [rlm]
    simp only [Sem.run_bind, partsPEr, Result.andThen]
    simp [ReflectliteValue.isNil, loadVar, isAgg, underlying, Tryz.underlying69, ha, Result.andThen]
theorem elemOfPEr (w : World) : (Rtype.elem? 69).run Tryz.prog w = .ok (some 62) w := by kernel_rfl
theorem mkPEr (p : Addr) (w : World) : (ReflectliteValue.mk 62 p ReflectliteValue.flagAddr).run Tryz.prog w = .ok (.agg #[tyV 62, .pointer (some p), .int .u64 386]) w := by kernel_rfl
theorem rlElemPEr {b k off : Nat} (hb : S.ob b = some (.box 69 [.loc k off])) (h : K (.agg [.v (tyV 62), .loc k off, .v (.int .u64 386)]) S) : DCalls Tryz.prog 114 [.agg [.v (tyV 69), .loc b 0, .v (.int .u64 150)]] S K :=
  dext (e := ReflectliteValue.method (ReflectliteValue.valueError "reflectlite.Value.Elem" 0) ReflectliteValue.elem) Tryz.func114 (by kernel_rfl) (by kernel_rfl) (by kernel_rfl) (by kernel_rfl) fun base η w vs hM hr => by
    simp only [RepL, Rep] at hr
    obtain ⟨_, _, rfl, ⟨_, rfl, ⟨_, _, rfl, rfl, _, _, rfl, ⟨q, hq, rfl⟩, _, _, rfl, rfl, rfl⟩, _⟩, rfl⟩ := hr
    obtain ⟨us, g1, g2, g3⟩ := hM.box b _ _ q hb hq
    simp only [RepL, Rep] at g2
    obtain ⟨_, _, rfl, ⟨p, hp, rfl⟩, rfl⟩ := g2
    have ha : w.cell? ⟨q, 0, none⟩ = some (.pointer (some ⟨p, off, none⟩)) := by simp [World.cell?, g1]
    refine ⟨_, S, η, .agg #[tyV 62, .pointer (some ⟨p, off, none⟩), .int .u64 386], w, ?_, h, ?_, Goes.refl hM⟩
    · rw [rlm]
      simp only [Sem.run_bind, partsPEr, Result.andThen]
      simp [ReflectliteValue.elem, loadVar, isAgg, underlying, Tryz.underlying69, ha, Result.andThen, elemOfPEr, mkPEr]
    · simp only [Rep, RepL]
      exact ⟨[_, _, _], rfl, ⟨_, _, rfl, rfl, _, _, rfl, ⟨p, hp, rfl⟩, _, _, rfl, rfl, rfl⟩, fun x hx => by simp only [List.mem_cons, List.not_mem_nil, or_false] at hx; rcases hx with rfl | rfl | rfl <;> rfl⟩
theorem methKindPEr : DMeth Tryz.prog 152 (tyD 69) "Kind" 197 (.v (tyV 69)) := dmeth_pure rfl rfl fun w => by kernel_rfl
theorem methKindEr : DMeth Tryz.prog 152 (tyD 62) "Kind" 197 (.v (tyV 62)) := dmeth_pure rfl rfl fun w => by kernel_rfl
theorem rlKindPEr (h : K (.v (.int .u8 22)) S) : DCalls Tryz.prog 197 [.v (tyV 69)] S K :=
  dext_pure (e := ReflectliteType.abiMethod fun t => do pure (.int .u8 (← Rtype.kind t))) Tryz.func197 (by kernel_rfl) (by kernel_rfl) (by kernel_rfl) (by kernel_rfl) (r := .int .u8 22) rfl (fun w => by kernel_rfl) rfl h
theorem rlKindEr (h : K (.v (.int .u8 2)) S) : DCalls Tryz.prog 197 [.v (tyV 62)] S K :=
  dext_pure (e := ReflectliteType.abiMethod fun t => do pure (.int .u8 (← Rtype.kind t))) Tryz.func197 (by kernel_rfl) (by kernel_rfl) (by kernel_rfl) (by kernel_rfl) (r := .int .u8 2) rfl (fun w => by kernel_rfl) rfl h
theorem methElemPEr : DMeth Tryz.prog 152 (tyD 69) "Elem" 208 (tyD 69) := dmeth_pure rfl rfl fun w => by kernel_rfl
theorem rlTElemPEr (h : K (rtD 62) S) : DCalls Tryz.prog 208 [tyD 69] S K :=
  dext_pure (e := ReflectliteType.method ReflectliteType.elem) Tryz.func208 (by kernel_rfl) (by kernel_rfl) (by kernel_rfl) (by kernel_rfl) (r := .iface 152 (.agg #[tyV 62])) rfl (fun w => by kernel_rfl) rfl h
theorem methImplEr : DMeth Tryz.prog 152 (tyD 62) "Implements" 209 (tyD 62) := dmeth_pure rfl rfl fun w => by kernel_rfl
theorem rlImplEr (h : K (.v (.bool true)) S) : DCalls Tryz.prog 209 [tyD 62, rtD 35] S K :=
  dext_pure (e := ReflectliteType.relation "Implements" ReflectliteType.implements_) Tryz.func209 (by kernel_rfl) (by kernel_rfl) (by kernel_rfl) (by kernel_rfl) (r := .bool true) rfl (fun w => by kernel_rfl) rfl h
theorem methAsgEr : DMeth Tryz.prog 152 (tyD 62) "AssignableTo" 206 (tyD 62) := dmeth_pure rfl rfl fun w => by kernel_rfl
theorem rlAsgEr (h : K (.v (.bool true)) S) : DCalls Tryz.prog 206 [tyD 62, rtD 62] S K :=
  dext_pure (e := ReflectliteType.relation "AssignableTo" ReflectliteType.assignableTo) Tryz.func206 (by kernel_rfl) (by kernel_rfl) (by kernel_rfl) (by kernel_rfl) (r := .bool true) rfl (fun w => by kernel_rfl) rfl h
theorem typeOfEr (x : Value) (w : World) : (ReflectliteType.typeOf #[.iface 62 x]).run Tryz.prog w = .ok (.iface 152 (.agg #[tyV 62])) w := by kernel_rfl
theorem rlTypeOfEr {d : D} (h : K (rtD 62) S) : DCalls Tryz.prog 113 [.ifc 62 d] S K :=
  dext (e := ReflectliteType.typeOf) Tryz.func113 (by kernel_rfl) (by kernel_rfl) (by kernel_rfl) (by kernel_rfl) fun base η w vs hM hr => by
    simp only [RepL, Rep] at hr
    obtain ⟨_, _, rfl, ⟨x, rfl, _⟩, rfl⟩ := hr
    exact ⟨_, S, η, _, w, typeOfEr x w, h, (rep_val_iff (d := rtD 62) rfl).2 rfl, Goes.refl hM⟩
end

end Go.Proofs.YtjjhjhjphhpeiaaGreatDoor

namespace Go.Proofs.YtjjhjhjphhpeiaaGreatDoor
open Go.RowKit Go.Extern.Stop Go.Stop Go.Extern
set_option linter.unusedSimpArgs false
set_option linter.unusedVariables false
/-- An error's number, as a tree; an error in a place. -/
abbrev erD (n : Int) : D := .ifc 62 (.v (.int .i64 n))
section
variable {P : Program} {S : St} {K : D → St → Prop}
end
section
variable {S : St} {K : D → St → Prop} {u : D}
end
/-- What ValueOf tells of a number, of an error in a place; and Set. -/
theorem unpackEr (n : Int) (w : World) : (ReflectliteValue.unpack (.iface 62 (.int .i64 n))).run Tryz.prog w = .ok (.agg #[tyV 62, .pointer (some ⟨w.heap.size, 0, none⟩), .int .u64 130]) (w.alloc (.cells #[.int .i64 n] 62)) := by kernel_rfl
section
variable {S : St} {K : D → St → Prop}
theorem rlValueOfEr {n : Int} (h : K (.agg [.v (tyV 62), .loc S.next 0, .v (.int .u64 130)]) (S.add (.box 62 [.v (.int .i64 n)]))) : DCalls Tryz.prog 69 [erD n] S K :=
  dext (e := fun args => ReflectliteValue.unpack (args.getD 0 (.tuple #[]))) Tryz.func69 (by kernel_rfl) (by kernel_rfl) (by kernel_rfl) (by kernel_rfl) fun base η w vs hM hr => by
    simp only [RepL, Rep] at hr
    obtain ⟨_, _, rfl, ⟨_, rfl, rfl⟩, rfl⟩ := hr
    have G := goes_name hM (.box 62 [.v (.int .i64 n)]) #[.int .i64 n] 62 (.inl ⟨_, [.int .i64 n], rfl, rfl, by simp only [RepL, Rep]; exact ⟨_, _, rfl, rfl, rfl⟩, fun x hx => by rw [List.mem_singleton] at hx; subst hx; rfl⟩)
    refine ⟨_, _, _, _, _, unpackEr _ w, h, ?_, G⟩
    simp only [Rep, RepL]
    exact ⟨[_, _, _], rfl, ⟨_, _, rfl, rfl, _, _, rfl, ⟨w.heap.size, by simp only [Names.add, ↓reduceIte], rfl⟩, _, _, rfl, rfl, rfl⟩, fun x hx => by simp only [List.mem_cons, List.not_mem_nil, or_false] at hx; rcases hx with rfl | rfl | rfl <;> rfl⟩
end

theorem partsEra (a : Addr) (w : World) : (ReflectliteValue.parts (.agg #[tyV 62, .pointer (some a), .int .u64 386])).run Tryz.prog w = .ok (some (62, a, 386)) w := by kernel_rfl
theorem partsEr (a : Addr) (w : World) : (ReflectliteValue.parts (.agg #[tyV 62, .pointer (some a), .int .u64 130])).run Tryz.prog w = .ok (some (62, a, 130)) w := by kernel_rfl
theorem directEr (w : World) : (Rtype.directlyAssignable 62 62).run Tryz.prog w = .ok true w := by kernel_rfl
theorem sizeEr (w : World) : (sizeOf 62).run Tryz.prog w = .ok 1 w := by kernel_rfl
theorem setEr {b a : Nat} {x : Value} {n : Int} {W : World} (hb : W.heap[b]? = some (.cells [x].toArray 62 (0, 0))) (ha : W.cell? ⟨a, 0, none⟩ = some (.int .i64 n)) :
    (ReflectliteValue.set #[.agg #[tyV 62, .pointer (some ⟨b, 0, none⟩), .int .u64 386], .agg #[tyV 62, .pointer (some ⟨a, 0, none⟩), .int .u64 130]]).run Tryz.prog W = .ok (.tuple #[]) (W.setRow b [.int .i64 n].toArray) := by
  have q := run_storeCells_at Tryz.prog b 0 62 [.int .i64 n] 0 [x].toArray W hb (by simp) (by simp [Value.oneCell'])
  rw [rls]
  simp only [Sem.run_bind, partsEra, partsEr, Result.andThen]
  simp [ReflectliteValue.flagAddr, loadVar, isAgg, underlying, Tryz.underlying62, ha, Result.andThen, directEr, storeVar, sizeEr, Value.cells] at q ⊢
  simp [q]
theorem rlSetEr {S : St} {K : D → St → Prop} {a b : Nat} {d0 : D} {n : Int} (hb : S.ob b = some (.box 62 [d0])) (ha : S.ob a = some (.box 62 [.v (.int .i64 n)])) (h : K (.tup []) (S.set b (.box 62 [.v (.int .i64 n)]))) :
    DCalls Tryz.prog 115 [.agg [.v (tyV 62), .loc b 0, .v (.int .u64 386)], .agg [.v (tyV 62), .loc a 0, .v (.int .u64 130)]] S K :=
  dext (e := ReflectliteValue.set) Tryz.func115 (by kernel_rfl) (by kernel_rfl) (by kernel_rfl) (by kernel_rfl) fun base η w vs hM hr => by
    simp only [RepL, Rep] at hr
    obtain ⟨_, _, rfl, ⟨_, rfl, ⟨_, _, rfl, rfl, _, _, rfl, ⟨q, hq, rfl⟩, _, _, rfl, rfl, rfl⟩, _⟩, _, _, rfl, ⟨_, rfl, ⟨_, _, rfl, rfl, _, _, rfl, ⟨p, hp, rfl⟩, _, _, rfl, rfl, rfl⟩, _⟩, rfl⟩ := hr
    obtain ⟨us, g1, g2, g3⟩ := hM.box b _ _ q hb hq
    obtain ⟨us', k1, k2, k3⟩ := hM.box a _ _ p ha hp
    simp only [RepL] at g2
    obtain ⟨x, _, rfl, hx, rfl⟩ := g2
    simp only [RepL] at k2
    obtain ⟨y, _, rfl, hy, rfl⟩ := k2
    have hy0 := hy
    simp only [Rep] at hy
    subst hy
    have hc : w.cell? ⟨p, 0, none⟩ = some (.int .i64 n) := by simp [World.cell?, k1]
    have G := goes_set hM (cs' := [.v (.int .i64 n)]) (vs' := [_]) hb hq rfl (by simp only [RepL]; exact ⟨_, _, rfl, hy0, rfl⟩) k3
    exact ⟨_, _, _, _, _, setEr g1 hc, h, by simp only [Rep, RepL]; exact ⟨[], rfl, rfl⟩, G⟩

end Go.Proofs.YtjjhjhjphhpeiaaGreatDoor

namespace Go.Proofs.YtjjhjhjphhpeiaaGreatDoor
open Go.RowKit
set_option linter.unusedSimpArgs false
set_option linter.unusedVariables false
theorem bnil_eq0 (k : Nat) : dbin Tryz.prog .eql 35 (.tmp k) (.const .nilIface) (.v .nilIface) (.v .nilIface) = some (True, .v (.bool true)) := by kernel_rfl
set_option maxRecDepth 200000 in
set_option maxHeartbeats 4000000 in
theorem as0Walk {S : St} {n : Int} {x0 : D} {kb kc : Nat} {K : D → St → Prop} (hk : S.ob kc = some (.box 62 [x0])) (hb : S.ob kb = some (.box 69 [.loc kc 0]))
    (h : ∀ T, S.next ≤ T.next → T.WF → (∀ j o, j ≠ kc → S.ob j = some o → T.ob j = some o) → T.ob kc = some (.box 62 [.v (.int .i64 n)]) → K (.v (.bool true)) T) :
    DCalls Tryz.prog 72 [erD n, .ifc 69 (.loc kc 0), .agg [.v (tyV 69), .loc kb 0, .v (.int .u64 150)], rtD 62] S K := by
  refine dcalls_inline mixed Tryz.func72 rfl (fun _ _ => by kernel_rfl) (rs := [.tmp 8]) rfl (by kernel_rfl) (fun hS => ?_)
  (simp (disch := first | decide | omega | (simp only [nx]; first | done | omega)) only [go_sem, Nat.reduceMul]; (repeat (with_reducible refine And.intro (by first | omega | assumption | rfl) ?_)))
  (refine dloop_st (fun t => List.contains [0, 8, 9, 10, 11, 12, 14, 15, 16, 17, 18, 19, 20, 21, 22, 23, 24, 25, 26, 27, 28, 29, 30, 31, 32, 33, 34, 35, 36, 37, 38, 39, 40, 41, 42, 43, 44, 45, 46, 47, 48, 49, 50, 51, 52, 53, 54, 55, 56, 57, 58, 59, 60, 61] t) (by kernel_rfl) ?_ (0) (fun i f => i ≤ 0 ∧ f 0 = erD n ∧ f 8 = .v (.bool false)) ?_ ?_; (exact (by (repeat' first | assumption | refine St.WF.leave ?_ _ | refine St.WF.add ?_ _ | refine St.WF.set ?_ ?_ _ | refine St.WF.grow ?_ _ _ _ | refine St.WF.keep ?_ ?_ | (first | omega | (simp only [RowOk.lo, nx]; first | done | omega))))); (exact ⟨(by omega), (by (first | (simp (disch := first | decide | omega | (simp only [nx]; first | done | omega)) only [go_sem, Nat.reduceMul]; first | done | rfl) | rfl)), (by (first | (simp (disch := first | decide | omega | (simp only [nx]; first | done | omega)) only [go_sem, Nat.reduceMul]; first | done | rfl) | rfl))⟩); intro i g tn hn hT hg hI; obtain ⟨le, q0, q8⟩ := hI; have q1 := hg 1 rfl; have q3 := hg 3 rfl; have q6 := hg 6 rfl; simp (disch := first | decide | omega | (simp only [nx]; first | done | omega)) only [go_sem, Nat.reduceMul] at q1 q3 q6; clear hg; have hn' := hn; try simp only [add_next, set_next, grow_next, leave_next, drop_next] at hn')
  have hB : ∀ j o, S.ob j = some o → (St.mk tn (S.add (.box 105 [.v (tyV 69), .loc kb 0, .v (.int .u64 150)])).ob).ob j = some o := fun j o ho => by
    have hkl := hS.lt ho
    show (if j = S.next then _ else S.ob j) = _
    rw [if_neg (by omega), ho]
  (simp (disch := first | decide | omega | (simp only [nx]; first | done | omega)) only [go_sem, Nat.reduceMul, q0, q1, q3, q6]; (repeat (with_reducible refine And.intro (by first | omega | assumption | rfl) ?_)))
  refine rlTypeOfEr ?_
  (simp (disch := first | decide | omega | (simp only [nx]; first | done | omega)) only [go_sem, Nat.reduceMul, q0, q1, q3, q6]; (repeat (with_reducible refine And.intro (by first | omega | assumption | rfl) ?_)))
  refine dinvoke_mk methAsgEr (rlAsgEr ?_)
  (simp (disch := first | decide | omega | (simp only [nx]; first | done | omega)) only [go_sem, Nat.reduceMul, q0, q1, q3, q6]; (repeat (with_reducible refine And.intro (by first | omega | assumption | rfl) ?_)))
  refine rlElemPEr (hB _ _ hb) ?_
  (simp (disch := first | decide | omega | (simp only [nx]; first | done | omega)) only [go_sem, Nat.reduceMul, q0, q1, q3, q6]; (repeat (with_reducible refine And.intro (by first | omega | assumption | rfl) ?_)))
  refine rlValueOfEr ?_
  (simp (disch := first | decide | omega | (simp only [nx]; first | done | omega)) only [go_sem, Nat.reduceMul, q0, q1, q3, q6]; (repeat (with_reducible refine And.intro (by first | omega | assumption | rfl) ?_)))
  have hkc := hS.lt hk
  have hkn : kc ≠ tn := by omega
  refine rlSetEr (d0 := x0) (n := n) ?_ ?_ ?_
  · show (if kc = tn then _ else _) = _
    rw [if_neg hkn]; exact hB _ _ hk
  · show (if tn = tn then _ else _) = _
    rw [if_pos rfl]
  (simp (disch := first | decide | omega | (simp only [nx]; first | done | omega)) only [go_sem, Nat.reduceMul, q0, q1, q3, q6]; (repeat (with_reducible refine And.intro (by first | omega | assumption | rfl) ?_)))
  refine h _ ?_ ?_ (fun j o hj ho => ?_) ?_
  · show S.next ≤ tn + 1
    omega
  · exact (by (repeat' first | assumption | refine St.WF.leave ?_ _ | refine St.WF.add ?_ _ | refine St.WF.set ?_ ?_ _ | refine St.WF.grow ?_ _ _ _ | refine St.WF.keep ?_ ?_ | (first | omega | (simp only [RowOk.lo, nx]; first | done | omega))))
  · show (if j = kc then _ else if j = tn then _ else _) = _
    have := hS.lt ho
    rw [if_neg hj, if_neg (by omega)]; exact hB _ _ ho
  · show (if kc = kc then _ else _) = _
    rw [if_pos rfl]
set_option maxRecDepth 200000 in
set_option maxHeartbeats 4000000 in
theorem as0 {S : St} {n : Int} {x0 : D} {kc : Nat} {K : D → St → Prop} (hk : S.ob kc = some (.box 62 [x0]))
    (h : ∀ T, S.next ≤ T.next → T.WF → (∀ j o, j ≠ kc → S.ob j = some o → T.ob j = some o) → T.ob kc = some (.box 62 [.v (.int .i64 n)]) → K (.v (.bool true)) T) :
    DCalls Tryz.prog 35 [erD n, .ifc 69 (.loc kc 0)] S K := by
  refine dcalls_inline mixed Tryz.func35 rfl (fun _ _ => by kernel_rfl) (rs := [.tmp 4]) rfl (by kernel_rfl) (fun hS => ?_)
  unfold erD
  (simp (disch := first | decide | omega | (simp only [nx]; first | done | omega)) only [go_sem, Nat.reduceMul]; (repeat (with_reducible refine And.intro (by first | omega | assumption | rfl) ?_)))
  refine rlValueOfPEr ?_
  (simp (disch := first | decide | omega | (simp only [nx]; first | done | omega)) only [go_sem, Nat.reduceMul]; (repeat (with_reducible refine And.intro (by first | omega | assumption | rfl) ?_)))
  refine rlTypePEr ?_
  (simp (disch := first | decide | omega | (simp only [nx]; first | done | omega)) only [go_sem, Nat.reduceMul]; (repeat (with_reducible refine And.intro (by first | omega | assumption | rfl) ?_)))
  have k22 : ((22 : Int) != 22) = false := by decide
  have k20 : ((2 : Int) != 20) = true := by decide
  refine dinvoke_mk methKindPEr (rlKindPEr ?_)
  (simp (disch := first | decide | omega | (simp only [nx]; first | done | omega)) only [go_sem, Nat.reduceMul, k22]; (repeat (with_reducible refine And.intro (by first | omega | assumption | rfl) ?_)))
  refine rlIsNilPEr (k := kc) (off := 0) ?_ ?_
  · (first | (simp (disch := first | decide | omega | (simp only [nx]; first | done | omega)) only [go_sem, Nat.reduceMul]; first | done | rfl) | rfl)
  (simp (disch := first | decide | omega | (simp only [nx]; first | done | omega)) only [go_sem, Nat.reduceMul, k22]; (repeat (with_reducible refine And.intro (by first | omega | assumption | rfl) ?_)))
  refine dinvoke_mk methElemPEr (rlTElemPEr ?_)
  (simp (disch := first | decide | omega | (simp only [nx]; first | done | omega)) only [go_sem, Nat.reduceMul]; (repeat (with_reducible refine And.intro (by first | omega | assumption | rfl) ?_)))
  refine dinvoke_mk methKindEr (rlKindEr ?_)
  (simp (disch := first | decide | omega | (simp only [nx]; first | done | omega)) only [go_sem, Nat.reduceMul, k20]; (repeat (with_reducible refine And.intro (by first | omega | assumption | rfl) ?_)))
  refine dinvoke_mk methImplEr (rlImplEr ?_)
  (simp (disch := first | decide | omega | (simp only [nx]; first | done | omega)) only [go_sem, Nat.reduceMul]; (repeat (with_reducible refine And.intro (by first | omega | assumption | rfl) ?_)))
  have hkc := hS.lt hk
  have hB : ∀ j o, S.ob j = some o → (((S.add (.box 69 [.loc kc 0])).add (.box 105 [.v (.pointer none), .v (.pointer none), .v (.int .u64 0)])).set (S.next + 1) (.box 105 [.v (tyV 69), .loc S.next 0, .v (.int .u64 150)])).ob j = some o := fun j o ho => by
    have hkl := hS.lt ho
    show (if j = S.next + 1 then _ else if j = S.next + 1 then _ else if j = S.next then _ else S.ob j) = _
    rw [if_neg (by omega), if_neg (by omega), if_neg (by omega), ho]
  refine as0Walk (hB _ _ hk) (kb := S.next) ?_ fun T t1 t2 t3 t4 => ?_
  · (first | (simp (disch := first | decide | omega | (simp only [nx]; first | done | omega)) only [go_sem, Nat.reduceMul]; first | done | rfl) | rfl)
  (simp (disch := first | decide | omega | (simp only [nx]; first | done | omega)) only [go_sem, Nat.reduceMul]; (repeat (with_reducible refine And.intro (by first | omega | assumption | rfl) ?_)))
  exact h T (by have : S.next + 1 + 1 ≤ T.next := t1; omega) t2 (fun j o hj ho => t3 j o hj (hB _ _ ho)) t4
theorem code0_nil : DPure Tryz.prog 11 [.v .nilIface] (.v (.int .i64 0)) := by
  refine dpure_of_dwp mixed Tryz.func11 rfl (fun _ _ => by kernel_rfl) (rs := [.tmp 2]) rfl (by kernel_rfl) trivial (fun S hS => ?_)
  (simp (disch := first | decide | omega | (simp only [nx]; first | done | omega)) only [go_sem, Nat.reduceMul, bnil_eq0]; (repeat (with_reducible refine And.intro (by first | omega | assumption | rfl) ?_)))
  refine ⟨?_, (by (repeat' first | assumption | exact St.Sub.refl _ | exact RowOk.sub (by assumption) (by assumption) | refine St.Sub.trans ?_ (RowOk.sub (by assumption) (by assumption)) | refine St.Sub.add ?_ ?_ _ | refine St.Sub.set ?_ ?_ ?_ _ | refine St.Sub.keep ?_ ?_ | refine St.WF.leave ?_ _ | refine St.WF.add ?_ _ | refine St.WF.set ?_ ?_ _ | refine St.WF.grow ?_ _ _ _ | refine St.WF.keep ?_ ?_ | (first | omega | (simp only [RowOk.lo, nx]; first | done | omega))))⟩
  rfl
theorem code0_er (n : Int) : DPure Tryz.prog 11 [erD n] (.v (.int .i64 n)) := by
  refine dpure_of_dwp mixed Tryz.func11 rfl (fun _ _ => by kernel_rfl) (rs := [.tmp 2]) rfl (by kernel_rfl) trivial (fun S hS => ?_)
  unfold erD
  (simp (disch := first | decide | omega | (simp only [nx]; first | done | omega)) only [go_sem, Nat.reduceMul]; (repeat (with_reducible refine And.intro (by first | omega | assumption | rfl) ?_)))
  refine as0 (x0 := .v (.int .i64 0)) ?_ fun T t1 t2 t3 t4 => ?_
  · show (if S.next = S.next then _ else _) = _
    rw [if_pos rfl]
  (simp (disch := first | decide | omega | (simp only [nx]; first | done | omega)) only [go_sem, Nat.reduceMul, t4]; (repeat (with_reducible refine And.intro (by first | omega | assumption | rfl) ?_)))
  have hsub : S.Sub T := ⟨by have : S.next + 1 ≤ T.next := t1; omega, fun j o ho => t3 j o (by have := hS.lt ho; omega) (by have := hS.lt ho; show (if j = S.next then _ else _) = _; rw [if_neg (by omega), ho])⟩
  refine ⟨?_, (by (repeat' first | assumption | exact St.Sub.refl _ | exact RowOk.sub (by assumption) (by assumption) | refine St.Sub.trans ?_ (RowOk.sub (by assumption) (by assumption)) | refine St.Sub.add ?_ ?_ _ | refine St.Sub.set ?_ ?_ ?_ _ | refine St.Sub.keep ?_ ?_ | refine St.WF.leave ?_ _ | refine St.WF.add ?_ _ | refine St.WF.set ?_ ?_ _ | refine St.WF.grow ?_ _ _ _ | refine St.WF.keep ?_ ?_ | (first | omega | (simp only [RowOk.lo, nx]; first | done | omega))))⟩
  rfl
end Go.Proofs.YtjjhjhjphhpeiaaGreatDoor

namespace Go.Proofs.YtjjhjhjphhpeiaaGreatDoor
open Go.RowKit
set_option linter.unusedSimpArgs false
set_option linter.unusedVariables false
set_option maxRecDepth 200000 in
set_option maxHeartbeats 8000000 in
theorem stepsEqual_d (own own2 : Own) (p q : List DStp) (hp : p.length ≤ 1000000) (hq : q.length ≤ 1000000) : DPure Tryz.prog 52 [.sl own (p.map encP), .sl own2 (q.map encP)] (.v (.bool (decide (p = q)))) := by
  refine dpure_of_dwp mixed Tryz.func52 rfl (fun _ _ => by kernel_rfl) (rs := [.tmp 4]) rfl (by kernel_rfl) trivial (fun S hS => ?_)
  by_cases hl : p.length = q.length
  · have b0 : ((p.length : Int) != (q.length : Int)) = false := by simp [hl]
    (simp (disch := first | decide | omega | (simp only [nx]; first | done | omega)) only [go_sem, Nat.reduceMul, b0]; (repeat (with_reducible refine And.intro (by first | omega | assumption | rfl) ?_)))
    (refine dloop_st (fun t => List.contains [4, 5, 13, 14, 15, 16, 17, 18, 19, 20, 21, 22, 23, 24, 25] t) (by kernel_rfl) ?_ (p.length) (fun i f => i ≤ p.length ∧ f 13 = .v (.int .i64 (i : Nat)) ∧ (∀ j, j < i → p[j]? = q[j]?)) ?_ ?_; (exact (by (repeat' first | assumption | refine St.WF.leave ?_ _ | refine St.WF.add ?_ _ | refine St.WF.set ?_ ?_ _ | refine St.WF.grow ?_ _ _ _ | refine St.WF.keep ?_ ?_ | (first | omega | (simp only [RowOk.lo, nx]; first | done | omega))))); (exact ⟨(by omega), (by (first | (simp (disch := first | decide | omega | (simp only [nx]; first | done | omega)) only [go_sem, Nat.reduceMul]; first | done | rfl) | rfl)), (fun j hj => by omega)⟩); intro i g tn hn hT hg hI; obtain ⟨le, q13, hsame⟩ := hI; have q0 := hg 0 rfl; have q1 := hg 1 rfl; have q12 := hg 12 rfl; simp (disch := first | decide | omega | (simp only [nx]; first | done | omega)) only [go_sem, Nat.reduceMul] at q0 q1 q12; clear hg; have hn' := hn; try simp only [add_next, set_next, grow_next, leave_next, drop_next] at hn')
    by_cases hlt : i < p.length
    · have b1 : decide ((i : Int) < (p.length : Int)) = true := by simp; omega
      have w1 : IntKind.i64.wrap ((i : Int) + 1) = ((i + 1 : Nat) : Int) := IntWalk.i64_in _ ⟨by omega, by omega⟩
      have hlt2 : i < q.length := by omega
      (simp (disch := first | decide | omega | (simp only [nx]; first | done | omega)) only [go_sem, Nat.reduceMul, q0, q1, q12, q13, b1]; (repeat (with_reducible refine And.intro (by first | omega | assumption | rfl) ?_)))
      refine ddraw_mk 9 (by kernel_rfl) ?_
      by_cases hx : p[i] = q[i]
      · have b2 : (!decide (p[i] = q[i])) = false := by simp [hx]
        (simp (disch := first | decide | omega | (simp only [nx]; first | done | omega)) only [go_sem, Nat.reduceMul, q0, q1, q12, q13, b1, b2, w1]; (repeat (with_reducible refine And.intro (by first | omega | assumption | rfl) ?_)))
        (refine ⟨by omega, (by (repeat' first | assumption | exact St.Sub.refl _ | exact RowOk.sub (by assumption) (by assumption) | refine St.Sub.trans ?_ (RowOk.sub (by assumption) (by assumption)) | refine St.Sub.add ?_ ?_ _ | refine St.Sub.set ?_ ?_ ?_ _ | refine St.Sub.keep ?_ ?_ | refine St.WF.leave ?_ _ | refine St.WF.add ?_ _ | refine St.WF.set ?_ ?_ _ | refine St.WF.grow ?_ _ _ _ | refine St.WF.keep ?_ ?_ | (first | omega | (simp only [RowOk.lo, nx]; first | done | omega)))), ?_⟩; refine ⟨by omega, ?_, ?_⟩; all_goals (try (first | (simp (disch := first | decide | omega | (simp only [nx]; first | done | omega)) only [go_sem, Nat.reduceMul, w1]; first | done | rfl) | rfl)))
        intro j hj
        by_cases e : j = i
        · subst e; rw [List.getElem?_eq_getElem hlt, List.getElem?_eq_getElem hlt2, hx]
        · exact hsame j (by omega)
      · have b2 : (!decide (p[i] = q[i])) = true := by simp [hx]
        (simp (disch := first | decide | omega | (simp only [nx]; first | done | omega)) only [go_sem, Nat.reduceMul, q0, q1, q12, q13, b1, b2]; (repeat (with_reducible refine And.intro (by first | omega | assumption | rfl) ?_)))
        refine ⟨?_, (by (repeat' first | assumption | exact St.Sub.refl _ | exact RowOk.sub (by assumption) (by assumption) | refine St.Sub.trans ?_ (RowOk.sub (by assumption) (by assumption)) | refine St.Sub.add ?_ ?_ _ | refine St.Sub.set ?_ ?_ ?_ _ | refine St.Sub.keep ?_ ?_ | refine St.WF.leave ?_ _ | refine St.WF.add ?_ _ | refine St.WF.set ?_ ?_ _ | refine St.WF.grow ?_ _ _ _ | refine St.WF.keep ?_ ?_ | (first | omega | (simp only [RowOk.lo, nx]; first | done | omega))))⟩
        rw [decide_eq_false]
        · rfl
        · intro e; subst e; exact hx rfl
    · have b1 : decide ((i : Int) < (p.length : Int)) = false := by simp; omega
      (simp (disch := first | decide | omega | (simp only [nx]; first | done | omega)) only [go_sem, Nat.reduceMul, q0, q1, q12, q13, b1]; (repeat (with_reducible refine And.intro (by first | omega | assumption | rfl) ?_)))
      refine ⟨?_, (by (repeat' first | assumption | exact St.Sub.refl _ | exact RowOk.sub (by assumption) (by assumption) | refine St.Sub.trans ?_ (RowOk.sub (by assumption) (by assumption)) | refine St.Sub.add ?_ ?_ _ | refine St.Sub.set ?_ ?_ ?_ _ | refine St.Sub.keep ?_ ?_ | refine St.WF.leave ?_ _ | refine St.WF.add ?_ _ | refine St.WF.set ?_ ?_ _ | refine St.WF.grow ?_ _ _ _ | refine St.WF.keep ?_ ?_ | (first | omega | (simp only [RowOk.lo, nx]; first | done | omega))))⟩
      rw [decide_eq_true]
      · rfl
      · refine List.ext_getElem? fun j => ?_
        by_cases hj : j < i
        · exact hsame j hj
        · rw [List.getElem?_eq_none (by omega), List.getElem?_eq_none (by omega)]
  · have b0 : ((p.length : Int) != (q.length : Int)) = true := by simp; omega
    (simp (disch := first | decide | omega | (simp only [nx]; first | done | omega)) only [go_sem, Nat.reduceMul, b0]; (repeat (with_reducible refine And.intro (by first | omega | assumption | rfl) ?_)))
    refine ⟨?_, (by (repeat' first | assumption | exact St.Sub.refl _ | exact RowOk.sub (by assumption) (by assumption) | refine St.Sub.trans ?_ (RowOk.sub (by assumption) (by assumption)) | refine St.Sub.add ?_ ?_ _ | refine St.Sub.set ?_ ?_ ?_ _ | refine St.Sub.keep ?_ ?_ | refine St.WF.leave ?_ _ | refine St.WF.add ?_ _ | refine St.WF.set ?_ ?_ _ | refine St.WF.grow ?_ _ _ _ | refine St.WF.keep ?_ ?_ | (first | omega | (simp only [RowOk.lo, nx]; first | done | omega))))⟩
    rw [decide_eq_false]
    · rfl
    · intro e; subst e; exact hl rfl
noncomputable def sameO (o p : DOp) : Bool := decide (o.kind = p.kind) && (decide (o.id = p.id) && (decide (o.after = p.after) && (decide (o.path = p.path) && eqB o.val p.val)))
theorem sameO_self (o : DOp) : sameO o o = true := by simp [sameO, eqB_true rfl]
theorem int_dec (a b : Int) : (a == b) = decide (a = b) := by rw [Bool.eq_iff_iff]; simp
set_option maxRecDepth 200000 in
set_option maxHeartbeats 8000000 in
theorem same_o (o p : DOp) (h : OkO o) (h' : OkO p) : DPure Tryz.prog 22 [encO o, encO p] (.v (.bool (sameO o p))) := by
  have w1 := h.wt
  have w2 := h'.wt
  have l1 := h.path
  have l2 := h'.path
  refine dpure_of_dwp mixed Tryz.func22 rfl (fun _ _ => by kernel_rfl) (rs := [.tmp 4]) rfl (by kernel_rfl) trivial (fun S hS => ?_)
  cases c1 : decide (o.kind = p.kind) with
  | false =>
    (simp (disch := first | decide | omega | (simp only [nx]; first | done | omega)) only [go_sem, Nat.reduceMul, opCs, int_dec, c1]; (repeat (with_reducible refine And.intro (by first | omega | assumption | rfl) ?_)))
    refine ⟨?_, (by (repeat' first | assumption | exact St.Sub.refl _ | exact RowOk.sub (by assumption) (by assumption) | refine St.Sub.trans ?_ (RowOk.sub (by assumption) (by assumption)) | refine St.Sub.add ?_ ?_ _ | refine St.Sub.set ?_ ?_ ?_ _ | refine St.Sub.keep ?_ ?_ | refine St.WF.leave ?_ _ | refine St.WF.add ?_ _ | refine St.WF.set ?_ ?_ _ | refine St.WF.grow ?_ _ _ _ | refine St.WF.keep ?_ ?_ | (first | omega | (simp only [RowOk.lo, nx]; first | done | omega))))⟩
    rw [sameO, c1]; rfl
  | true =>
  cases c2 : decide (o.id = p.id) with
  | false =>
    (simp (disch := first | decide | omega | (simp only [nx]; first | done | omega)) only [go_sem, Nat.reduceMul, opCs, u64_dec, int_dec o.kind p.kind, c1, c2]; (repeat (with_reducible refine And.intro (by first | omega | assumption | rfl) ?_)))
    refine ⟨?_, (by (repeat' first | assumption | exact St.Sub.refl _ | exact RowOk.sub (by assumption) (by assumption) | refine St.Sub.trans ?_ (RowOk.sub (by assumption) (by assumption)) | refine St.Sub.add ?_ ?_ _ | refine St.Sub.set ?_ ?_ ?_ _ | refine St.Sub.keep ?_ ?_ | refine St.WF.leave ?_ _ | refine St.WF.add ?_ _ | refine St.WF.set ?_ ?_ _ | refine St.WF.grow ?_ _ _ _ | refine St.WF.keep ?_ ?_ | (first | omega | (simp only [RowOk.lo, nx]; first | done | omega))))⟩
    rw [sameO, c1, c2]; rfl
  | true =>
  cases c3 : decide (o.after = p.after) with
  | false =>
    (simp (disch := first | decide | omega | (simp only [nx]; first | done | omega)) only [go_sem, Nat.reduceMul, opCs, u64_dec, int_dec o.kind p.kind, c1, c2, c3]; (repeat (with_reducible refine And.intro (by first | omega | assumption | rfl) ?_)))
    refine ⟨?_, (by (repeat' first | assumption | exact St.Sub.refl _ | exact RowOk.sub (by assumption) (by assumption) | refine St.Sub.trans ?_ (RowOk.sub (by assumption) (by assumption)) | refine St.Sub.add ?_ ?_ _ | refine St.Sub.set ?_ ?_ ?_ _ | refine St.Sub.keep ?_ ?_ | refine St.WF.leave ?_ _ | refine St.WF.add ?_ _ | refine St.WF.set ?_ ?_ _ | refine St.WF.grow ?_ _ _ _ | refine St.WF.keep ?_ ?_ | (first | omega | (simp only [RowOk.lo, nx]; first | done | omega))))⟩
    rw [sameO, c1, c2, c3]; rfl
  | true =>
  (simp (disch := first | decide | omega | (simp only [nx]; first | done | omega)) only [go_sem, Nat.reduceMul, opCs, u64_dec, int_dec o.kind p.kind, c1, c2, c3]; (repeat (with_reducible refine And.intro (by first | omega | assumption | rfl) ?_)))
  refine DCalls.of_pure (stepsEqual_d .no .no o.path p.path (by omega) (by omega)) ?_
  cases c4 : decide (o.path = p.path) with
  | false =>
    (simp (disch := first | decide | omega | (simp only [nx]; first | done | omega)) only [go_sem, Nat.reduceMul]; (repeat (with_reducible refine And.intro (by first | omega | assumption | rfl) ?_)))
    refine ⟨?_, (by (repeat' first | assumption | exact St.Sub.refl _ | exact RowOk.sub (by assumption) (by assumption) | refine St.Sub.trans ?_ (RowOk.sub (by assumption) (by assumption)) | refine St.Sub.add ?_ ?_ _ | refine St.Sub.set ?_ ?_ ?_ _ | refine St.Sub.keep ?_ ?_ | refine St.WF.leave ?_ _ | refine St.WF.add ?_ _ | refine St.WF.set ?_ ?_ _ | refine St.WF.grow ?_ _ _ _ | refine St.WF.keep ?_ ?_ | (first | omega | (simp only [RowOk.lo, nx]; first | done | omega))))⟩
    rw [sameO, c1, c2, c3, c4]; rfl
  | true =>
  (simp (disch := first | decide | omega | (simp only [nx]; first | done | omega)) only [go_sem, Nat.reduceMul]; (repeat (with_reducible refine And.intro (by first | omega | assumption | rfl) ?_)))
  refine DCalls.of_pure (valSame_d o.val.depth o.val p.val (Nat.le_refl _) (by omega) (by omega)) ?_
  (simp (disch := first | decide | omega | (simp only [nx]; first | done | omega)) only [go_sem, Nat.reduceMul]; (repeat (with_reducible refine And.intro (by first | omega | assumption | rfl) ?_)))
  refine ⟨?_, (by (repeat' first | assumption | exact St.Sub.refl _ | exact RowOk.sub (by assumption) (by assumption) | refine St.Sub.trans ?_ (RowOk.sub (by assumption) (by assumption)) | refine St.Sub.add ?_ ?_ _ | refine St.Sub.set ?_ ?_ ?_ _ | refine St.Sub.keep ?_ ?_ | refine St.WF.leave ?_ _ | refine St.WF.add ?_ _ | refine St.WF.set ?_ ?_ _ | refine St.WF.grow ?_ _ _ _ | refine St.WF.keep ?_ ?_ | (first | omega | (simp only [RowOk.lo, nx]; first | done | omega))))⟩
  rw [sameO, c1, c2, c3, c4]; rfl
set_option maxRecDepth 200000 in
set_option maxHeartbeats 8000000 in
theorem refSame_o (o p : DOp) (h : OkO o) (h' : OkO p) : DPure Tryz.prog 23 [encO o, encO p] (.v (.bool (sameO o p))) := by
  have l1 := h.path
  have l2 := h'.path
  refine dpure_of_dwp mixed Tryz.func23 rfl (fun _ _ => by kernel_rfl) (rs := [.tmp 4]) rfl (by kernel_rfl) trivial (fun S hS => ?_)
  cases c1 : decide (o.kind = p.kind) with
  | false =>
    (simp (disch := first | decide | omega | (simp only [nx]; first | done | omega)) only [go_sem, Nat.reduceMul, opCs, int_dec, c1]; (repeat (with_reducible refine And.intro (by first | omega | assumption | rfl) ?_)))
    refine ⟨?_, (by (repeat' first | assumption | exact St.Sub.refl _ | exact RowOk.sub (by assumption) (by assumption) | refine St.Sub.trans ?_ (RowOk.sub (by assumption) (by assumption)) | refine St.Sub.add ?_ ?_ _ | refine St.Sub.set ?_ ?_ ?_ _ | refine St.Sub.keep ?_ ?_ | refine St.WF.leave ?_ _ | refine St.WF.add ?_ _ | refine St.WF.set ?_ ?_ _ | refine St.WF.grow ?_ _ _ _ | refine St.WF.keep ?_ ?_ | (first | omega | (simp only [RowOk.lo, nx]; first | done | omega))))⟩
    rw [sameO, c1]; rfl
  | true =>
  cases c2 : decide (o.id = p.id) with
  | false =>
    (simp (disch := first | decide | omega | (simp only [nx]; first | done | omega)) only [go_sem, Nat.reduceMul, opCs, u64_dec, int_dec o.kind p.kind, c1, c2]; (repeat (with_reducible refine And.intro (by first | omega | assumption | rfl) ?_)))
    refine ⟨?_, (by (repeat' first | assumption | exact St.Sub.refl _ | exact RowOk.sub (by assumption) (by assumption) | refine St.Sub.trans ?_ (RowOk.sub (by assumption) (by assumption)) | refine St.Sub.add ?_ ?_ _ | refine St.Sub.set ?_ ?_ ?_ _ | refine St.Sub.keep ?_ ?_ | refine St.WF.leave ?_ _ | refine St.WF.add ?_ _ | refine St.WF.set ?_ ?_ _ | refine St.WF.grow ?_ _ _ _ | refine St.WF.keep ?_ ?_ | (first | omega | (simp only [RowOk.lo, nx]; first | done | omega))))⟩
    rw [sameO, c1, c2]; rfl
  | true =>
  cases c3 : decide (o.after = p.after) with
  | false =>
    (simp (disch := first | decide | omega | (simp only [nx]; first | done | omega)) only [go_sem, Nat.reduceMul, opCs, u64_dec, int_dec o.kind p.kind, c1, c2, c3]; (repeat (with_reducible refine And.intro (by first | omega | assumption | rfl) ?_)))
    refine ⟨?_, (by (repeat' first | assumption | exact St.Sub.refl _ | exact RowOk.sub (by assumption) (by assumption) | refine St.Sub.trans ?_ (RowOk.sub (by assumption) (by assumption)) | refine St.Sub.add ?_ ?_ _ | refine St.Sub.set ?_ ?_ ?_ _ | refine St.Sub.keep ?_ ?_ | refine St.WF.leave ?_ _ | refine St.WF.add ?_ _ | refine St.WF.set ?_ ?_ _ | refine St.WF.grow ?_ _ _ _ | refine St.WF.keep ?_ ?_ | (first | omega | (simp only [RowOk.lo, nx]; first | done | omega))))⟩
    rw [sameO, c1, c2, c3]; rfl
  | true =>
  (simp (disch := first | decide | omega | (simp only [nx]; first | done | omega)) only [go_sem, Nat.reduceMul, opCs, u64_dec, int_dec o.kind p.kind, c1, c2, c3]; (repeat (with_reducible refine And.intro (by first | omega | assumption | rfl) ?_)))
  refine DCalls.of_pure (refSameP_d .no .no o.path p.path (by omega) (by omega)) ?_
  cases c4 : decide (o.path = p.path) with
  | false =>
    (simp (disch := first | decide | omega | (simp only [nx]; first | done | omega)) only [go_sem, Nat.reduceMul]; (repeat (with_reducible refine And.intro (by first | omega | assumption | rfl) ?_)))
    refine ⟨?_, (by (repeat' first | assumption | exact St.Sub.refl _ | exact RowOk.sub (by assumption) (by assumption) | refine St.Sub.trans ?_ (RowOk.sub (by assumption) (by assumption)) | refine St.Sub.add ?_ ?_ _ | refine St.Sub.set ?_ ?_ ?_ _ | refine St.Sub.keep ?_ ?_ | refine St.WF.leave ?_ _ | refine St.WF.add ?_ _ | refine St.WF.set ?_ ?_ _ | refine St.WF.grow ?_ _ _ _ | refine St.WF.keep ?_ ?_ | (first | omega | (simp only [RowOk.lo, nx]; first | done | omega))))⟩
    rw [sameO, c1, c2, c3, c4]; rfl
  | true =>
  (simp (disch := first | decide | omega | (simp only [nx]; first | done | omega)) only [go_sem, Nat.reduceMul]; (repeat (with_reducible refine And.intro (by first | omega | assumption | rfl) ?_)))
  refine DCalls.of_pure (refSameV_d o.val p.val h.val h'.val) ?_
  (simp (disch := first | decide | omega | (simp only [nx]; first | done | omega)) only [go_sem, Nat.reduceMul]; (repeat (with_reducible refine And.intro (by first | omega | assumption | rfl) ?_)))
  refine ⟨?_, (by (repeat' first | assumption | exact St.Sub.refl _ | exact RowOk.sub (by assumption) (by assumption) | refine St.Sub.trans ?_ (RowOk.sub (by assumption) (by assumption)) | refine St.Sub.add ?_ ?_ _ | refine St.Sub.set ?_ ?_ ?_ _ | refine St.Sub.keep ?_ ?_ | refine St.WF.leave ?_ _ | refine St.WF.add ?_ _ | refine St.WF.set ?_ ?_ _ | refine St.WF.grow ?_ _ _ _ | refine St.WF.keep ?_ ?_ | (first | omega | (simp only [RowOk.lo, nx]; first | done | omega))))⟩
  rw [sameO, c1, c2, c3, c4]; rfl
theorem code_errO (c : Nat) : DPure Tryz.prog 11 [errO c] (.v (.int .i64 ((c : Nat) : Int))) := by
  unfold errO
  by_cases h : c = 0
  · subst h; exact code0_nil
  · rw [if_neg h]; exact code0_er _
end Go.Proofs.YtjjhjhjphhpeiaaGreatDoor

namespace Go.Proofs.YtjjhjhjphhpeiaaGreatDoor
open Go.RowKit
set_option linter.unusedSimpArgs false
set_option linter.unusedVariables false
set_option maxRecDepth 200000 in
set_option maxHeartbeats 8000000 in
theorem opChecks_d (o p : DOp) (s : DSch) (ho : InO o) (hp : InO p) (hs : okS s) : DPure Tryz.prog 4 [encO o, encO p, encS s] (.v (.bool true)) := by
  refine dpure_of_dwp mixed Tryz.func4 rfl (fun _ _ => by kernel_rfl) (rs := [.tmp 6]) rfl (by kernel_rfl) trivial (fun S hS => ?_)
  (simp (disch := first | decide | omega | (simp only [nx]; first | done | omega)) only [go_sem, Nat.reduceMul]; (repeat (with_reducible refine And.intro (by first | omega | assumption | rfl) ?_)))
  refine DCalls.of_pure (greatO_d o ho) ?_
  cases g1 : greatO o with
  | true =>
    (simp (disch := first | decide | omega | (simp only [nx]; first | done | omega)) only [go_sem, Nat.reduceMul]; (repeat (with_reducible refine And.intro (by first | omega | assumption | rfl) ?_)))
    refine DCalls.of_pure awake12_d ?_
    (simp (disch := first | decide | omega | (simp only [nx]; first | done | omega)) only [go_sem, Nat.reduceMul]; (repeat (with_reducible refine And.intro (by first | omega | assumption | rfl) ?_)))
    refine ⟨?_, (by (repeat' first | assumption | exact St.Sub.refl _ | exact RowOk.sub (by assumption) (by assumption) | refine St.Sub.trans ?_ (RowOk.sub (by assumption) (by assumption)) | refine St.Sub.add ?_ ?_ _ | refine St.Sub.set ?_ ?_ ?_ _ | refine St.Sub.keep ?_ ?_ | refine St.WF.leave ?_ _ | refine St.WF.add ?_ _ | refine St.WF.set ?_ ?_ _ | refine St.WF.grow ?_ _ _ _ | refine St.WF.keep ?_ ?_ | (first | omega | (simp only [RowOk.lo, nx]; first | done | omega))))⟩
    rfl
  | false =>
  have hoo := ho.ok g1
  (simp (disch := first | decide | omega | (simp only [nx]; first | done | omega)) only [go_sem, Nat.reduceMul]; (repeat (with_reducible refine And.intro (by first | omega | assumption | rfl) ?_)))
  refine DCalls.of_pure (greatO_d p hp) ?_
  cases g2 : greatO p with
  | true =>
    (simp (disch := first | decide | omega | (simp only [nx]; first | done | omega)) only [go_sem, Nat.reduceMul]; (repeat (with_reducible refine And.intro (by first | omega | assumption | rfl) ?_)))
    refine DCalls.of_pure awake12_d ?_
    (simp (disch := first | decide | omega | (simp only [nx]; first | done | omega)) only [go_sem, Nat.reduceMul]; (repeat (with_reducible refine And.intro (by first | omega | assumption | rfl) ?_)))
    refine ⟨?_, (by (repeat' first | assumption | exact St.Sub.refl _ | exact RowOk.sub (by assumption) (by assumption) | refine St.Sub.trans ?_ (RowOk.sub (by assumption) (by assumption)) | refine St.Sub.add ?_ ?_ _ | refine St.Sub.set ?_ ?_ ?_ _ | refine St.Sub.keep ?_ ?_ | refine St.WF.leave ?_ _ | refine St.WF.add ?_ _ | refine St.WF.set ?_ ?_ _ | refine St.WF.grow ?_ _ _ _ | refine St.WF.keep ?_ ?_ | (first | omega | (simp only [RowOk.lo, nx]; first | done | omega))))⟩
    rfl
  | false =>
  have hpo := hp.ok g2
  (simp (disch := first | decide | omega | (simp only [nx]; first | done | omega)) only [go_sem, Nat.reduceMul]; (repeat (with_reducible refine And.intro (by first | omega | assumption | rfl) ?_)))
  refine DCalls.of_pure (greatS_d s hs) ?_
  cases g3 : decide (roomS 12 s 300 < 0) with
  | true =>
    (simp (disch := first | decide | omega | (simp only [nx]; first | done | omega)) only [go_sem, Nat.reduceMul]; (repeat (with_reducible refine And.intro (by first | omega | assumption | rfl) ?_)))
    refine DCalls.of_pure awake12_d ?_
    (simp (disch := first | decide | omega | (simp only [nx]; first | done | omega)) only [go_sem, Nat.reduceMul]; (repeat (with_reducible refine And.intro (by first | omega | assumption | rfl) ?_)))
    refine ⟨?_, (by (repeat' first | assumption | exact St.Sub.refl _ | exact RowOk.sub (by assumption) (by assumption) | refine St.Sub.trans ?_ (RowOk.sub (by assumption) (by assumption)) | refine St.Sub.add ?_ ?_ _ | refine St.Sub.set ?_ ?_ ?_ _ | refine St.Sub.keep ?_ ?_ | refine St.WF.leave ?_ _ | refine St.WF.add ?_ _ | refine St.WF.set ?_ ?_ _ | refine St.WF.grow ?_ _ _ _ | refine St.WF.keep ?_ ?_ | (first | omega | (simp only [RowOk.lo, nx]; first | done | omega))))⟩
    rfl
  | false =>
  have hsw := (room_spec 12 s 300 (by have := of_decide_eq_false g3; omega)).1
  have n1 := of_decide_eq_false g3
  (simp (disch := first | decide | omega | (simp only [nx]; first | done | omega)) only [go_sem, Nat.reduceMul]; (repeat (with_reducible refine And.intro (by first | omega | assumption | rfl) ?_)))
  refine ddraw_mk 33 (by kernel_rfl) ?_
  (simp (disch := first | decide | omega | (simp only [nx]; first | done | omega)) only [go_sem, Nat.reduceMul]; (repeat (with_reducible refine And.intro (by first | omega | assumption | rfl) ?_)))
  refine dqgo_mk (right_o o hoo) ?_
  (simp (disch := first | decide | omega | (simp only [nx]; first | done | omega)) only [go_sem, Nat.reduceMul]; (repeat (with_reducible refine And.intro (by first | omega | assumption | rfl) ?_)))
  refine dqgo_mk (refOpRight_d o hoo) ?_
  have e1 : (rightO o == rightO o) = true := by simp
  have e2 : (((chkO o s : Nat) : Int) == ((chkO o s : Nat) : Int)) = true := by simp
  have e3 : (sameO o p == sameO o p) = true := by simp
  (simp (disch := first | decide | omega | (simp only [nx]; first | done | omega)) only [go_sem, Nat.reduceMul, e1]; (repeat (with_reducible refine And.intro (by first | omega | assumption | rfl) ?_)))
  refine dqgo_mk (check_o o s hoo hs (by omega)) ?_
  (simp (disch := first | decide | omega | (simp only [nx]; first | done | omega)) only [go_sem, Nat.reduceMul]; (repeat (with_reducible refine And.intro (by first | omega | assumption | rfl) ?_)))
  refine dqgo_mk (code_errO (chkO o s)) ?_
  (simp (disch := first | decide | omega | (simp only [nx]; first | done | omega)) only [go_sem, Nat.reduceMul]; (repeat (with_reducible refine And.intro (by first | omega | assumption | rfl) ?_)))
  refine dqgo_mk (refCheck_d o s hoo hs (by omega)) ?_
  (simp (disch := first | decide | omega | (simp only [nx]; first | done | omega)) only [go_sem, Nat.reduceMul, e2]; (repeat (with_reducible refine And.intro (by first | omega | assumption | rfl) ?_)))
  refine dqgo_mk (same_o o p hoo hpo) ?_
  (simp (disch := first | decide | omega | (simp only [nx]; first | done | omega)) only [go_sem, Nat.reduceMul]; (repeat (with_reducible refine And.intro (by first | omega | assumption | rfl) ?_)))
  refine dqgo_mk (refSame_o o p hoo hpo) ?_
  (simp (disch := first | decide | omega | (simp only [nx]; first | done | omega)) only [go_sem, Nat.reduceMul, e3]; (repeat (with_reducible refine And.intro (by first | omega | assumption | rfl) ?_)))
  refine dqgo_mk (same_o o o hoo hoo) ?_
  rw [sameO_self]
  (simp (disch := first | decide | omega | (simp only [nx]; first | done | omega)) only [go_sem, Nat.reduceMul]; (repeat (with_reducible refine And.intro (by first | omega | assumption | rfl) ?_)))
  refine dqgo_mk awake12_d ?_
  (simp (disch := first | decide | omega | (simp only [nx]; first | done | omega)) only [go_sem, Nat.reduceMul]; (repeat (with_reducible refine And.intro (by first | omega | assumption | rfl) ?_)))
  refine ⟨?_, (by (repeat' first | assumption | exact St.Sub.refl _ | exact RowOk.sub (by assumption) (by assumption) | refine St.Sub.trans ?_ (RowOk.sub (by assumption) (by assumption)) | refine St.Sub.add ?_ ?_ _ | refine St.Sub.set ?_ ?_ ?_ _ | refine St.Sub.keep ?_ ?_ | refine St.WF.leave ?_ _ | refine St.WF.add ?_ _ | refine St.WF.set ?_ ?_ _ | refine St.WF.grow ?_ _ _ _ | refine St.WF.keep ?_ ?_ | (first | omega | (simp only [RowOk.lo, nx]; first | done | omega))))⟩
  rfl
end Go.Proofs.YtjjhjhjphhpeiaaGreatDoor

namespace Go.Proofs.YtjjhjhjphhpeiaaGreatDoor
open Go.ChangeShapes Go.WideShapes Go.ChangeAt Go.RowKit Go.Deep Go.Joins
section
variable {H : Type} {enc : TypeId × Value → H} {w : World}
set_option maxRecDepth 20000 in
theorem open_op {v : Value} {d : DataW H} {p : List MemPlace} {W : World} {base : Nat} (h : DataW.Trod enc Tryz.prog w 0 (fun _ => true) true 44 v d p) (hs : Sized Tryz.prog 44 d) (hk : Value.okWide Tryz.prog W .any base 44 v) :
    ∃ (o : DOp) (cs : List Value), v = .agg cs.toArray ∧ IsOp w o cs := by
  have : ∃ cs : Array Value, v = .agg cs := by
    simp only [Value.okWide, Tryz.underlying44] at hk
    obtain ⟨cs, h1, _⟩ := hk
    exact ⟨cs, h1⟩
  obtain ⟨cs, rfl⟩ := this
  obtain ⟨fuel, h⟩ := h
  obtain ⟨s, hs⟩ := open_op_trod (x := (d, p)) h hs
  exact ⟨s, cs.toList, by simp, by simpa [Value.cells] using hs⟩
end
set_option maxRecDepth 100000 in
theorem opChecks_lifted (os : Os) (started : os.Started) (H : Type) (enc : TypeId × Value → H) :
    ReturnsInHanded {} Tryz.checked os 4 .any (fun w args => (Rows.opChecksSpec.pre enc Tryz.prog Tryz.f4 [] false w args ∧ laidMetH Tryz.prog doorLaid w) ∧ sizedMet enc Tryz.prog Tryz.f4 (OpenSpec.ofChange Rows.opChecksSpec) false w args)
      (Rows.opChecksSpec.post enc Tryz.prog Tryz.f4 false true false false) := by
  refine returnsInHanded_of_change_and (C := Tryz.checked) (X := fun w _ => laidMetH Tryz.prog doorLaid w) (fun _ _ _ hh h => h.of_heap hh) door_own started (by kernel_rfl) Tryz.func4
    (ChangeSpec.witness_at (enc := enc) (C := Tryz.checked) (os := os) (X := fun w _ => laidMetH Tryz.prog doorLaid w) false (laidWorld os) #[.agg #[.int .i64 0, .slice none 0 0, .int .u64 0, .int .u64 0, .int .i64 0, .int .i64 0, .string "".toUTF8, .slice none 0 0, .slice none 0 0, .slice none 0 0], .agg #[.int .i64 0, .slice none 0 0, .int .u64 0, .int .u64 0, .int .i64 0, .int .i64 0, .string "".toUTF8, .slice none 0 0, .slice none 0 0, .slice none 0 0], .agg #[.int .i64 0, .slice none 0 0, .slice none 0 0]] 8 rfl (by kernel_rfl) (by kernel_rfl) (by kernel_rfl) (by kernel_rfl) (by kernel_rfl) (laidWorld_met os _)) ?_
  intro W base args ds gs before hval0 hW hcnd hsz0 hL _
  have hG := glob_of_laid hL
  have hval : ∀ (j : Nat) t v, Tryz.f4.params[j]? = some t → args[j]? = some v → Value.okWide Tryz.prog W .any base t v := hval0
  have hsz : (DataW.weightsEach Tryz.prog (Tryz.f4.params.toList ++ Rows.opChecksSpec.plain.varTypes Tryz.prog) (ds ++ gs)).all (· ≤ reachBytes) = true := hsz0
  have hW' := hW
  obtain ⟨p, q, hA0, hV, rfl, hfz, hnd⟩ := hW
  have hA : DataW.TrodAll enc Tryz.prog W 0 (fun _ => true) true Tryz.f4.params.toList args.toList ds p := hA0
  obtain ⟨rfl, rfl⟩ := trodVars_none hV
  rw [Tryz.params4] at hA hval hsz
  have hA1 := hA
  obtain ⟨v0, vs0, d0, ds0, p0, q0, hargs, rfl, rfl, h0, r0⟩ := trodAll_cons hA
  obtain ⟨v1, vs1, d1, ds1, p1, q1, rfl, rfl, rfl, h1, r1⟩ := trodAll_cons r0
  obtain ⟨v2, vs2, d2, ds2, p2, q2, rfl, rfl, rfl, h2, r2⟩ := trodAll_cons r1
  obtain ⟨rfl, rfl, rfl⟩ := trodAll_nil r2
  obtain rfl : args = #[v0, v1, v2] := by cases args; simp_all
  have z0 : Sized Tryz.prog 44 d0 := sized_of_each (j := 0) hsz rfl rfl
  have k0 : Value.okWide Tryz.prog W .any base 44 v0 := hval 0 _ _ rfl rfl
  have z1 : Sized Tryz.prog 44 d1 := sized_of_each (j := 1) hsz rfl rfl
  have k1 : Value.okWide Tryz.prog W .any base 44 v1 := hval 1 _ _ rfl rfl
  have z2 : Sized Tryz.prog 25 d2 := sized_of_each (j := 2) hsz rfl rfl
  have k2 : Value.okWide Tryz.prog W .any base 25 v2 := hval 2 _ _ rfl rfl
  clear hA0 hval0 hsz hsz0 hval
  have key : Calls Tryz.prog 4 #[v0, v1, v2] W (Gives (.bool true) W) := by
    obtain ⟨o, os_, rfl, ho⟩ := open_op h0 z0 k0
    obtain ⟨p', ps, rfl, hp⟩ := open_op h1 z1 k1
    obtain ⟨s, cs, rfl, hs⟩ := open_schema h2 z2 k2
    exact door_gives (vs := [.agg os_.toArray, .agg ps.toArray, .agg cs.toArray]) (opChecks_d o p' s ho.1 hp.1 hs.ok) (by simp only [RepL]; exact ⟨_, _, rfl, ho.2 _ _ fix_nilD, _, _, rfl, hp.2 _ _ fix_nilD, _, _, rfl, rep_sch (fun b i _ => fix_nilD b i) hs, rfl⟩) (by intro _ _; kernel_rfl) hG
  refine key.mono fun e W' ⟨he, bel⟩ => ?_
  subst he
  exact ⟨_, rfl, _, _, _, [], _, [], hW', trodAll_mk1 (shut_bool Tryz.underlying4 _), trodAll_below door_laidOut bel (by kernel_rfl) hA1, rfl, bel.frame _, fun h => by cases h⟩

theorem opChecks_row : Rows.OpChecksSaid :=
  OpenClaim.holds_of_wide 4 Tryz.f4 rfl rfl rfl rfl rfl rfl rfl ⟨rfl, rfl, rfl, rfl, rfl⟩ rfl rfl rfl rfl rfl (by kernel_rfl) Tryz.func4 (by kernel_rfl)
    (of_decide_eq_true (by kernel_rfl)) (by unfold Func.isWrapper; first | (rw [if_pos (by decide +kernel)]; kernel_rfl) | (rw [if_neg (by decide +kernel)]; exact ⟨rfl, rfl⟩))
    (fun os started H enc _ => opChecks_lifted os started H enc)
theorem opChecks_holds : Rows.OpChecksCardSaid :=
  Claim7.holds_tied_plain_at .later [] [.handle] true Rows.opChecksCard.stood.harness true
    opChecks_row (fun _ h => by cases h) (by kernel_rfl) (fun _ h => by cases h) opChecks_row_tie rfl ⟨rfl, rfl⟩ (by kernel_rfl) rfl
    (fun f fn hf hfn => by
      obtain rfl : f = 4 := Option.some.inj ((show Tryz.prog.funcNamed "dioptre/dioptrelaw12.OpChecks" = some 4 by kernel_rfl).symm.trans hf) |>.symm
      obtain rfl : fn = Tryz.f4 := (Option.some.inj (Tryz.func4.symm.trans hfn)).symm
      exact ⟨by kernel_rfl, fun j t ht => by
        rw [Tryz.params4] at ht
        have ht' := List.mem_of_getElem? (Array.getElem?_toList ▸ ht)
        simp only [List.mem_cons, List.not_mem_nil, or_false] at ht'
        rcases ht' with rfl | rfl | rfl <;> exact (show Tryz.prog.wantsStandIn _ = false by kernel_rfl)⟩)
    (by kernel_rfl)
#print axioms opChecks_holds
end Go.Proofs.YtjjhjhjphhpeiaaGreatDoor
