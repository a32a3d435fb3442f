/- Texts of a proof, part 8. Conditions: none. -/
import Derived.Test.YtogbklnkpjjkoaaGreatDoorR7
import Derived.RangeFuncRecord
import Derived.MapKept
import Derived.ChangeKeysEq
import Derived.RangeFuncLeaves
import Derived.RangeFuncSeq
import Derived.OrdersIn
import Derived.TacticsIn
set_option linter.unusedVariables false
set_option linter.unusedSimpArgs false
namespace Go.Proofs.YtogbklnkpjjkoaaGreatDoor
open Go.RowKit
section
set_option maxRecDepth 200000
set_option maxHeartbeats 8000000
theorem ixPr_at {S : St} {own : Own} {l : List (DVal × DVal)} {g : FuncId} {fs cs : List D} (p : (DVal × DVal) → Bool) (hl : l.length ≤ 1000000) (hc : ∀ x ∈ l, DSt Tryz.prog g (fs ++ [encPr x] ++ cs) S (.v (.bool (p x)))) : DAt Tryz.prog 145 [.sl own (l.map encPr), .fn (.func g) fs cs] S (.v (.int .i64 (ixOf p l))) := by
  refine dat_of_dwpL mixed Tryz.func145 rfl (fun _ _ => by kernel_rfl) (rs := [.tmp 4]) rfl (by kernel_rfl) (by trivial) (fun hS => ?_)
  (simp (disch := first | decide | omega | (simp only [nx]; first | done | omega)) only [go_sem]; (repeat with_reducible refine aI ?_))
  (refine dloop_st (fun t => List.contains [4, 5, 8, 9, 10, 11, 12, 13, 14, 15, 16, 17, 18] t) (by kernel_rfl) ?_ (l.length) (fun i f => i ≤ l.length ∧ f 8 = .v (.int .i64 (i : Nat)) ∧ (∀ j (h : j < l.length), j < i → p l[j] = false)) ?_ ?_; (exact (by (repeat' first | assumption | refine St.WF.leave ?_ _ | refine St.WF.add ?_ _ | refine St.WF.set ?_ ?_ _ | refine St.WF.grow ?_ _ _ _ | refine St.WF.keep ?_ ?_ | (first | omega | (simp only [RowOk.lo, nx]; first | done | omega))))); (exact ⟨(by omega), (by (first | (simp (disch := first | decide | omega | (simp only [nx]; first | done | omega)) only [go_sem]; first | done | rfl) | rfl)), (fun j _ h => absurd h (by omega))⟩); intro i g tn hn hT hg hI; obtain ⟨le, q8, hs⟩ := hI; have q0 := hg 0 rfl; have q1 := hg 1 rfl; have q7 := hg 7 rfl; simp (disch := first | decide | omega | (simp only [nx]; first | done | omega)) only [go_sem] at q0 q1 q7; clear hg; have hn' := hn; try simp only [add_next, set_next, grow_next, leave_next, drop_next] at hn')
  by_cases hlt : i < l.length
  · have b1 : decide ((i : Int) < (l.length : Int)) = true := decide_eq_true (by omega)
    have w1 : IntKind.i64.wrap ((i : Int) + 1) = ((i + 1 : Nat) : Int) := IntWalk.i64_in _ ⟨by omega, by omega⟩
    (simp (disch := first | decide | omega | (simp only [nx]; first | done | omega)) only [go_sem, q0, q1, q7, q8, b1, hlt]; (repeat with_reducible refine aI ?_))
    refine go_at (hc l[i] (List.getElem_mem _) ⟨tn, S.ob⟩ hn (fun _ _ h => h)) ?_
    cases hp : p l[i] with
    | false =>
      (simp (disch := first | decide | omega | (simp only [nx]; first | done | omega)) only [go_sem, q8, w1]; (repeat with_reducible refine aI ?_))
      refine ⟨by omega, ⟨hn, fun _ _ h => h⟩, by omega, ?_, fun j hj hji => ?_⟩
      · (first | (simp (disch := first | decide | omega | (simp only [nx]; first | done | omega)) only [go_sem, w1]; first | done | rfl) | rfl)
      · by_cases e : j = i
        · subst e; exact hp
        · exact hs j hj (by omega)
    | true =>
      (simp (disch := first | decide | omega | (simp only [nx]; first | done | omega)) only [go_sem]; (repeat with_reducible refine aI ?_))
      refine ⟨?_, ⟨hn, fun _ _ h => h⟩⟩
      rw [ixOf_at hlt hp hs]
      rfl
  · have b1 : decide ((i : Int) < (l.length : Int)) = false := decide_eq_false (by omega)
    (simp (disch := first | decide | omega | (simp only [nx]; first | done | omega)) only [go_sem, q7, q8, b1]; (repeat with_reducible refine aI ?_))
    refine ⟨?_, ⟨hn, fun _ _ h => h⟩⟩
    rw [ixOf_none fun j hj => hs j hj (by omega)]
    rfl
theorem anyPr_at {S : St} {own : Own} {l : List (DVal × DVal)} {g : FuncId} {fs cs : List D} (p : DVal × DVal → Bool) (hl : l.length ≤ 1000000) (hc : ∀ x ∈ l, DSt Tryz.prog g (fs ++ [encPr x] ++ cs) S (.v (.bool (p x)))) : DAt Tryz.prog 111 [.sl own (l.map encPr), .fn (.func g) fs cs] S (.v (.bool (l.any p))) := by
  refine dat_of_dwpL mixed Tryz.func111 rfl (fun _ _ => by kernel_rfl) (rs := [.tmp 4]) rfl (by kernel_rfl) (by trivial) (fun hS => ?_)
  (simp (disch := first | decide | omega | (simp only [nx]; first | done | omega)) only [go_sem]; (repeat with_reducible refine aI ?_))
  refine go_at (ixPr_at p hl hc) ?_
  (simp (disch := first | decide | omega | (simp only [nx]; first | done | omega)) only [go_sem, ixOf_any]; (repeat with_reducible refine aI ?_))
  refine ⟨?_, (by (repeat' first | assumption | exact St.Sub.refl _ | exact RowOk.sub (by assumption) (by assumption) | refine St.Sub.trans ?_ (RowOk.sub (by assumption) (by assumption)) | refine St.Sub.add ?_ ?_ _ | refine St.Sub.set ?_ ?_ ?_ _ | refine St.Sub.keep ?_ ?_ | refine St.WF.leave ?_ _ | refine St.WF.add ?_ _ | refine St.WF.set ?_ ?_ _ | refine St.WF.grow ?_ _ _ _ | refine St.WF.keep ?_ ?_ | (first | omega | (simp only [RowOk.lo, nx]; first | done | omega))))⟩
  rfl
def badP (l : DLens) (p : DVal × DVal) : Bool := !scalarV p.1 || !fitsTop p.2 l.typ
theorem badP_at (l : DLens) (p : DVal × DVal) (k : Nat) (hl : okL l) (h1 : okV p.1) (h2 : okV p.2) {S : St} (hk : S.ob k = some (.box 47 (encL l).cells)) :
    DAt Tryz.prog 138 [encPr p, .loc k 0] S (.v (.bool (badP l p))) := by
  have ho := (okL_eq l).1 hl
  refine dat_of_dwpL mixed Tryz.func138 rfl (fun _ _ => by kernel_rfl) (rs := [.tmp 3]) rfl (by kernel_rfl) (by trivial) (fun hS => ?_)
  have hkn := hS.lt hk
  rw [encL_eq] at hk
  (simp (disch := first | decide | omega | (simp only [nx]; first | done | omega)) only [go_sem, encPr_eq p, hk]; (repeat with_reducible refine aI ?_))
  rw [aggV_fold]
  refine DCalls.of_pure (scalarV_d p.1 h1) ?_
  cases g1 : scalarV p.1 with
  | false =>
    (simp (disch := first | decide | omega | (simp only [nx]; first | done | omega)) only [go_sem]; (repeat with_reducible refine aI ?_))
    refine ⟨?_, (by (repeat' first | assumption | exact St.Sub.refl _ | exact RowOk.sub (by assumption) (by assumption) | refine St.Sub.trans ?_ (RowOk.sub (by assumption) (by assumption)) | refine St.Sub.add ?_ ?_ _ | refine St.Sub.set ?_ ?_ ?_ _ | refine St.Sub.keep ?_ ?_ | refine St.WF.leave ?_ _ | refine St.WF.add ?_ _ | refine St.WF.set ?_ ?_ _ | refine St.WF.grow ?_ _ _ _ | refine St.WF.keep ?_ ?_ | (first | omega | (simp only [RowOk.lo, nx]; first | done | omega))))⟩
    rw [badP, g1]; rfl
  | true =>
    (simp (disch := first | decide | omega | (simp only [nx]; first | done | omega)) only [go_sem, hk]; (repeat with_reducible refine aI ?_))
    rw [aggV_fold, aggS_fold]
    refine DCalls.of_pure (fitsTop_d p.2 l.typ h2 ho.2.2.2.1) ?_
    (simp (disch := first | decide | omega | (simp only [nx]; first | done | omega)) only [go_sem]; (repeat with_reducible refine aI ?_))
    refine ⟨?_, (by (repeat' first | assumption | exact St.Sub.refl _ | exact RowOk.sub (by assumption) (by assumption) | refine St.Sub.trans ?_ (RowOk.sub (by assumption) (by assumption)) | refine St.Sub.add ?_ ?_ _ | refine St.Sub.set ?_ ?_ ?_ _ | refine St.Sub.keep ?_ ?_ | refine St.WF.leave ?_ _ | refine St.WF.add ?_ _ | refine St.WF.set ?_ ?_ _ | refine St.WF.grow ?_ _ _ _ | refine St.WF.keep ?_ ?_ | (first | omega | (simp only [RowOk.lo, nx]; first | done | omega))))⟩
    rw [badP, g1]; rfl
def pairedB (l : DLens) : Bool := scalarV l.back && decide (l.pairs.length ≤ 8) && !(l.pairs.any (badP l))
theorem paired_d (l : DLens) (hok : okL l) : DPure Tryz.prog 104 [encL l] (.v (.bool (pairedB l))) := by
  have ho := (okL_eq l).1 hok
  refine dpure_of_dwp mixed Tryz.func104 rfl (fun _ _ => by kernel_rfl) (rs := [.tmp 2]) rfl (by kernel_rfl) trivial (fun S hS => ?_)
  (simp (disch := first | decide | omega | (simp only [nx]; first | done | omega)) only [go_sem, encL_eq l]; (repeat with_reducible refine aI ?_))
  rw [aggV_fold]
  refine DCalls.of_pure (scalarV_d l.back ho.2.2.2.2.2.1) ?_
  cases h1 : scalarV l.back with
  | false =>
    (simp (disch := first | decide | omega | (simp only [nx]; first | done | omega)) only [go_sem]; (repeat with_reducible refine aI ?_))
    refine ⟨?_, (by (repeat' first | assumption | exact St.Sub.refl _ | exact RowOk.sub (by assumption) (by assumption) | refine St.Sub.trans ?_ (RowOk.sub (by assumption) (by assumption)) | refine St.Sub.add ?_ ?_ _ | refine St.Sub.set ?_ ?_ ?_ _ | refine St.Sub.keep ?_ ?_ | refine St.WF.leave ?_ _ | refine St.WF.add ?_ _ | refine St.WF.set ?_ ?_ _ | refine St.WF.grow ?_ _ _ _ | refine St.WF.keep ?_ ?_ | (first | omega | (simp only [RowOk.lo, nx]; first | done | omega))))⟩
    rw [pairedB, h1]; rfl
  | true =>
    cases h2 : decide ((l.pairs.length : Int) ≤ 8) with
    | false =>
      have h2' : decide (l.pairs.length ≤ 8) = false := by have := of_decide_eq_false h2; exact decide_eq_false (by omega)
      (simp (disch := first | decide | omega | (simp only [nx]; first | done | omega)) only [go_sem, h2]; (repeat with_reducible refine aI ?_))
      refine ⟨?_, (by (repeat' first | assumption | exact St.Sub.refl _ | exact RowOk.sub (by assumption) (by assumption) | refine St.Sub.trans ?_ (RowOk.sub (by assumption) (by assumption)) | refine St.Sub.add ?_ ?_ _ | refine St.Sub.set ?_ ?_ ?_ _ | refine St.Sub.keep ?_ ?_ | refine St.WF.leave ?_ _ | refine St.WF.add ?_ _ | refine St.WF.set ?_ ?_ _ | refine St.WF.grow ?_ _ _ _ | refine St.WF.keep ?_ ?_ | (first | omega | (simp only [RowOk.lo, nx]; first | done | omega))))⟩
      rw [pairedB, h1, h2']; rfl
    | true =>
      have h2' : l.pairs.length ≤ 8 := by have := of_decide_eq_true h2; omega
      (simp (disch := first | decide | omega | (simp only [nx]; first | done | omega)) only [go_sem, h2]; (repeat with_reducible refine aI ?_))
      refine go_at (anyPr_at (badP l) (by omega) fun x hx T hn hg => ?_) ?_
      · exact badP_at l x S.next hok (ho.2.2.2.2.2.2.1 x hx).1 (ho.2.2.2.2.2.2.1 x hx).2 (hg _ _ (by (first | (simp (disch := first | decide | omega | (simp only [nx]; first | done | omega)) only [go_sem, encL_eq l]; first | done | rfl) | rfl)))
      (simp (disch := first | decide | omega | (simp only [nx]; first | done | omega)) only [go_sem]; (repeat with_reducible refine aI ?_))
      refine ⟨?_, (by (repeat' first | assumption | exact St.Sub.refl _ | exact RowOk.sub (by assumption) (by assumption) | refine St.Sub.trans ?_ (RowOk.sub (by assumption) (by assumption)) | refine St.Sub.add ?_ ?_ _ | refine St.Sub.set ?_ ?_ ?_ _ | refine St.Sub.keep ?_ ?_ | refine St.WF.leave ?_ _ | refine St.WF.add ?_ _ | refine St.WF.set ?_ ?_ _ | refine St.WF.grow ?_ _ _ _ | refine St.WF.keep ?_ ?_ | (first | omega | (simp only [RowOk.lo, nx]; first | done | omega))))⟩
      rw [pairedB, h1, decide_eq_true h2']; rfl
noncomputable def headL (l : DLens) : Bool :=
  uOk l.kind && (nameB l.a && (zeroB (uB l.kind) (uT l.kind) (uK l.kind) (uI l.kind) l &&
    (if uB l.kind then nameB l.b && !(l.a == l.b) else if uK l.kind then typedB l && pairedB l else if uT l.kind then typedB l else true)))
noncomputable def rightL : Nat → DLens → Bool
  | 0, _ => false
  | n + 1, l => headL l && (!uI l.kind || (decide (l.inner.length = 1) && l.inner.all (rightL n)))
structure SmL (l : DLens) : Prop where
  ok : okL l
  base : l.base.weight ≤ 1000000
  back : l.back.weight ≤ 1000000
theorem smL_of {k : Nat} {l : DLens} (h : roomL k l = true) (hok : okL l) : SmL l := by
  cases k with
  | zero => cases h
  | succ k =>
    have hr := roomL_of h
    exact ⟨hok, by have := (smallV hr.base).1; omega, by have := (smallV hr.back).1; omega⟩
theorem roomL_in {k : Nat} {l x : DLens} (h : roomL (k + 1) l = true) (hx : x ∈ l.inner) : roomL k x = true := (roomL_of h).inn x hx
theorem okL_in {l x : DLens} (h : okL l) (hx : x ∈ l.inner) : okL x := ((okL_eq l).1 h).2.2.2.2.2.2.2.2.2 x hx
theorem right_dL (n : Nat) (hn : n ≤ 100) : ∀ k l, roomL k l = true → okL l → DPure Tryz.prog 75 [encL l, .v (.int .i64 ((n : Nat) : Int))] (.v (.bool (rightL n l))) := by
  induction n with
  | zero =>
    intro k l hroom hok
    refine dpure_of_dwp mixed Tryz.func75 rfl (fun _ _ => by kernel_rfl) (rs := [.tmp 4]) rfl (by kernel_rfl) trivial (fun S hS => ?_)
    (simp (disch := first | decide | omega | (simp only [nx]; first | done | omega)) only [go_sem, encL_eq l]; (repeat with_reducible refine aI ?_))
    refine DCalls.of_pure (uses_d l.kind) ?_
    cases h1 : uOk l.kind with
    | false =>
      (simp (disch := first | decide | omega | (simp only [nx]; first | done | omega)) only [go_sem, tupU, encU, h1]; (repeat with_reducible refine aI ?_))
      refine ⟨?_, (by (repeat' first | assumption | exact St.Sub.refl _ | exact RowOk.sub (by assumption) (by assumption) | refine St.Sub.trans ?_ (RowOk.sub (by assumption) (by assumption)) | refine St.Sub.add ?_ ?_ _ | refine St.Sub.set ?_ ?_ ?_ _ | refine St.Sub.keep ?_ ?_ | refine St.WF.leave ?_ _ | refine St.WF.add ?_ _ | refine St.WF.set ?_ ?_ _ | refine St.WF.grow ?_ _ _ _ | refine St.WF.keep ?_ ?_ | (first | omega | (simp only [RowOk.lo, nx]; first | done | omega))))⟩
      rfl
    | true =>
      (simp (disch := first | decide | omega | (simp only [nx]; first | done | omega)) only [go_sem, tupU, encU, h1]; (repeat with_reducible refine aI ?_))
      refine ⟨?_, (by (repeat' first | assumption | exact St.Sub.refl _ | exact RowOk.sub (by assumption) (by assumption) | refine St.Sub.trans ?_ (RowOk.sub (by assumption) (by assumption)) | refine St.Sub.add ?_ ?_ _ | refine St.Sub.set ?_ ?_ ?_ _ | refine St.Sub.keep ?_ ?_ | refine St.WF.leave ?_ _ | refine St.WF.add ?_ _ | refine St.WF.set ?_ ?_ _ | refine St.WF.grow ?_ _ _ _ | refine St.WF.keep ?_ ?_ | (first | omega | (simp only [RowOk.lo, nx]; first | done | omega))))⟩
      rfl
  | succ n ih =>
    intro k l hroom hok
    have hs := smL_of hroom hok
    have ho := (okL_eq l).1 hok
    have e0 : (((n + 1 : Nat) : Int) == 0) = false := by rw [beq_eq_false_iff_ne]; omega
    have w1 : IntKind.i64.wrap (((n + 1 : Nat) : Int) - 1) = ((n : Nat) : Int) := by rw [show ((n + 1 : Nat) : Int) - 1 = (n : Int) by omega]; exact IntWalk.i64_in _ ⟨by omega, by omega⟩
    have fin : ∀ {v w : Bool}, v = w → (D.v (.bool v)).frz = .v (.bool w) := fun h => by rw [h]; rfl
    refine dpure_of_dwp mixed Tryz.func75 rfl (fun _ _ => by kernel_rfl) (rs := [.tmp 4]) rfl (by kernel_rfl) trivial (fun S hS => ?_)
    (simp (disch := first | decide | omega | (simp only [nx]; first | done | omega)) only [go_sem, encL_eq l]; (repeat with_reducible refine aI ?_))
    refine DCalls.of_pure (uses_d l.kind) ?_
    cases h1 : uOk l.kind with
    | false =>
      (simp (disch := first | decide | omega | (simp only [nx]; first | done | omega)) only [go_sem, tupU, encU, h1]; (repeat with_reducible refine aI ?_))
      refine ⟨?_, (by (repeat' first | assumption | exact St.Sub.refl _ | exact RowOk.sub (by assumption) (by assumption) | refine St.Sub.trans ?_ (RowOk.sub (by assumption) (by assumption)) | refine St.Sub.add ?_ ?_ _ | refine St.Sub.set ?_ ?_ ?_ _ | refine St.Sub.keep ?_ ?_ | refine St.WF.leave ?_ _ | refine St.WF.add ?_ _ | refine St.WF.set ?_ ?_ _ | refine St.WF.grow ?_ _ _ _ | refine St.WF.keep ?_ ?_ | (first | omega | (simp only [RowOk.lo, nx]; first | done | omega))))⟩
      refine fin ?_
      simp only [rightL, headL, h1, Bool.false_and]
    | true =>
      (simp (disch := first | decide | omega | (simp only [nx]; first | done | omega)) only [go_sem, tupU, encU, h1, e0]; (repeat with_reducible refine aI ?_))
      refine DCalls.of_pure (name_d l.a ho.2.1) ?_
      cases h2 : nameB l.a with
      | false =>
        (simp (disch := first | decide | omega | (simp only [nx]; first | done | omega)) only [go_sem]; (repeat with_reducible refine aI ?_))
        refine ⟨?_, (by (repeat' first | assumption | exact St.Sub.refl _ | exact RowOk.sub (by assumption) (by assumption) | refine St.Sub.trans ?_ (RowOk.sub (by assumption) (by assumption)) | refine St.Sub.add ?_ ?_ _ | refine St.Sub.set ?_ ?_ ?_ _ | refine St.Sub.keep ?_ ?_ | refine St.WF.leave ?_ _ | refine St.WF.add ?_ _ | refine St.WF.set ?_ ?_ _ | refine St.WF.grow ?_ _ _ _ | refine St.WF.keep ?_ ?_ | (first | omega | (simp only [RowOk.lo, nx]; first | done | omega))))⟩
        refine fin ?_
        simp only [rightL, headL, h1, h2, Bool.false_and, Bool.true_and]
      | true =>
        (simp (disch := first | decide | omega | (simp only [nx]; first | done | omega)) only [go_sem]; (repeat with_reducible refine aI ?_))
        rw [aggL_fold]
        refine DCalls.of_pure (zero_d (uB l.kind) (uT l.kind) (uK l.kind) (uI l.kind) l hok hs.base hs.back) ?_
        cases h3 : zeroB (uB l.kind) (uT l.kind) (uK l.kind) (uI l.kind) l with
        | false =>
          (simp (disch := first | decide | omega | (simp only [nx]; first | done | omega)) only [go_sem]; (repeat with_reducible refine aI ?_))
          refine ⟨?_, (by (repeat' first | assumption | exact St.Sub.refl _ | exact RowOk.sub (by assumption) (by assumption) | refine St.Sub.trans ?_ (RowOk.sub (by assumption) (by assumption)) | refine St.Sub.add ?_ ?_ _ | refine St.Sub.set ?_ ?_ ?_ _ | refine St.Sub.keep ?_ ?_ | refine St.WF.leave ?_ _ | refine St.WF.add ?_ _ | refine St.WF.set ?_ ?_ _ | refine St.WF.grow ?_ _ _ _ | refine St.WF.keep ?_ ?_ | (first | omega | (simp only [RowOk.lo, nx]; first | done | omega))))⟩
          refine fin ?_
          simp only [rightL, headL, h1, h2, h3, Bool.false_and, Bool.true_and]
        | true =>
          have hR : ∀ x, rightL (n + 1) l = x ↔ ((if uB l.kind then nameB l.b && !(l.a == l.b) else if uK l.kind then typedB l && pairedB l else if uT l.kind then typedB l else true) && (!uI l.kind || (decide (l.inner.length = 1) && l.inner.all (rightL n)))) = x := fun x => by
            simp only [rightL, headL, h1, h2, h3, Bool.true_and]
          cases h4 : uB l.kind with
          | true =>
            have i4 : uI l.kind = false := by
              simp only [uB, uI, Bool.or_eq_true, beq_iff_eq, Bool.or_eq_false_iff, beq_eq_false_iff_ne] at h4 ⊢
              omega
            (simp (disch := first | decide | omega | (simp only [nx]; first | done | omega)) only [go_sem, h4]; (repeat with_reducible refine aI ?_))
            refine DCalls.of_pure (name_d l.b ho.2.2.1) ?_
            cases h5 : nameB l.b with
            | false =>
              (simp (disch := first | decide | omega | (simp only [nx]; first | done | omega)) only [go_sem]; (repeat with_reducible refine aI ?_))
              refine ⟨?_, (by (repeat' first | assumption | exact St.Sub.refl _ | exact RowOk.sub (by assumption) (by assumption) | refine St.Sub.trans ?_ (RowOk.sub (by assumption) (by assumption)) | refine St.Sub.add ?_ ?_ _ | refine St.Sub.set ?_ ?_ ?_ _ | refine St.Sub.keep ?_ ?_ | refine St.WF.leave ?_ _ | refine St.WF.add ?_ _ | refine St.WF.set ?_ ?_ _ | refine St.WF.grow ?_ _ _ _ | refine St.WF.keep ?_ ?_ | (first | omega | (simp only [RowOk.lo, nx]; first | done | omega))))⟩
              refine fin ?_
              rw [eq_comm, hR]
              simp [h4, h5]
            | true =>
              (simp (disch := first | decide | omega | (simp only [nx]; first | done | omega)) only [go_sem]; (repeat with_reducible refine aI ?_))
              refine ⟨?_, (by (repeat' first | assumption | exact St.Sub.refl _ | exact RowOk.sub (by assumption) (by assumption) | refine St.Sub.trans ?_ (RowOk.sub (by assumption) (by assumption)) | refine St.Sub.add ?_ ?_ _ | refine St.Sub.set ?_ ?_ ?_ _ | refine St.Sub.keep ?_ ?_ | refine St.WF.leave ?_ _ | refine St.WF.add ?_ _ | refine St.WF.set ?_ ?_ _ | refine St.WF.grow ?_ _ _ _ | refine St.WF.keep ?_ ?_ | (first | omega | (simp only [RowOk.lo, nx]; first | done | omega))))⟩
              refine fin ?_
              rw [eq_comm, hR]
              simp [h4, h5, i4, bne]
          | false =>
            cases h5 : uK l.kind with
            | true =>
              have i4 : uI l.kind = false := by
                simp only [uK, uI, Bool.or_eq_true, beq_iff_eq, Bool.or_eq_false_iff, beq_eq_false_iff_ne] at h5 ⊢
                omega
              (simp (disch := first | decide | omega | (simp only [nx]; first | done | omega)) only [go_sem, h4, h5]; (repeat with_reducible refine aI ?_))
              rw [aggL_fold]
              refine DCalls.of_pure (typed_d l hok) ?_
              cases h6 : typedB l with
              | false =>
                (simp (disch := first | decide | omega | (simp only [nx]; first | done | omega)) only [go_sem]; (repeat with_reducible refine aI ?_))
                refine ⟨?_, (by (repeat' first | assumption | exact St.Sub.refl _ | exact RowOk.sub (by assumption) (by assumption) | refine St.Sub.trans ?_ (RowOk.sub (by assumption) (by assumption)) | refine St.Sub.add ?_ ?_ _ | refine St.Sub.set ?_ ?_ ?_ _ | refine St.Sub.keep ?_ ?_ | refine St.WF.leave ?_ _ | refine St.WF.add ?_ _ | refine St.WF.set ?_ ?_ _ | refine St.WF.grow ?_ _ _ _ | refine St.WF.keep ?_ ?_ | (first | omega | (simp only [RowOk.lo, nx]; first | done | omega))))⟩
                refine fin ?_
                rw [eq_comm, hR]
                simp [h4, h5, h6]
              | true =>
                (simp (disch := first | decide | omega | (simp only [nx]; first | done | omega)) only [go_sem]; (repeat with_reducible refine aI ?_))
                rw [aggL_fold]
                refine DCalls.of_pure (paired_d l hok) ?_
                (simp (disch := first | decide | omega | (simp only [nx]; first | done | omega)) only [go_sem]; (repeat with_reducible refine aI ?_))
                refine ⟨?_, (by (repeat' first | assumption | exact St.Sub.refl _ | exact RowOk.sub (by assumption) (by assumption) | refine St.Sub.trans ?_ (RowOk.sub (by assumption) (by assumption)) | refine St.Sub.add ?_ ?_ _ | refine St.Sub.set ?_ ?_ ?_ _ | refine St.Sub.keep ?_ ?_ | refine St.WF.leave ?_ _ | refine St.WF.add ?_ _ | refine St.WF.set ?_ ?_ _ | refine St.WF.grow ?_ _ _ _ | refine St.WF.keep ?_ ?_ | (first | omega | (simp only [RowOk.lo, nx]; first | done | omega))))⟩
                refine fin ?_
                rw [eq_comm, hR]
                simp [h4, h5, h6, i4]
            | false =>
              cases h6 : uT l.kind with
              | true =>
                have i4 : uI l.kind = false := by
                  simp only [uT, uI, Bool.or_eq_true, beq_iff_eq, Bool.or_eq_false_iff, beq_eq_false_iff_ne] at h6 ⊢
                  omega
                (simp (disch := first | decide | omega | (simp only [nx]; first | done | omega)) only [go_sem, h4, h5, h6]; (repeat with_reducible refine aI ?_))
                rw [aggL_fold]
                refine DCalls.of_pure (typed_d l hok) ?_
                (simp (disch := first | decide | omega | (simp only [nx]; first | done | omega)) only [go_sem]; (repeat with_reducible refine aI ?_))
                refine ⟨?_, (by (repeat' first | assumption | exact St.Sub.refl _ | exact RowOk.sub (by assumption) (by assumption) | refine St.Sub.trans ?_ (RowOk.sub (by assumption) (by assumption)) | refine St.Sub.add ?_ ?_ _ | refine St.Sub.set ?_ ?_ ?_ _ | refine St.Sub.keep ?_ ?_ | refine St.WF.leave ?_ _ | refine St.WF.add ?_ _ | refine St.WF.set ?_ ?_ _ | refine St.WF.grow ?_ _ _ _ | refine St.WF.keep ?_ ?_ | (first | omega | (simp only [RowOk.lo, nx]; first | done | omega))))⟩
                refine fin ?_
                rw [eq_comm, hR]
                simp [h4, h5, h6, i4]
              | false =>
                cases h7 : uI l.kind with
                | false =>
                  (simp (disch := first | decide | omega | (simp only [nx]; first | done | omega)) only [go_sem, h4, h5, h6, h7]; (repeat with_reducible refine aI ?_))
                  refine ⟨?_, (by (repeat' first | assumption | exact St.Sub.refl _ | exact RowOk.sub (by assumption) (by assumption) | refine St.Sub.trans ?_ (RowOk.sub (by assumption) (by assumption)) | refine St.Sub.add ?_ ?_ _ | refine St.Sub.set ?_ ?_ ?_ _ | refine St.Sub.keep ?_ ?_ | refine St.WF.leave ?_ _ | refine St.WF.add ?_ _ | refine St.WF.set ?_ ?_ _ | refine St.WF.grow ?_ _ _ _ | refine St.WF.keep ?_ ?_ | (first | omega | (simp only [RowOk.lo, nx]; first | done | omega))))⟩
                  refine fin ?_
                  rw [eq_comm, hR]
                  simp [h4, h5, h6, h7]
                | true =>
                  cases k with
                  | zero => cases hroom
                  | succ k =>
                  by_cases h8 : l.inner.length = 1
                  · obtain ⟨x, hx⟩ := List.length_eq_one_iff.1 h8
                    have hxm : x ∈ l.inner := by rw [hx]; exact List.mem_singleton.2 rfl
                    have b1 : (((l.inner.length : Nat) : Int) == 1) = true := by rw [h8]; rfl
                    have b2 : (((1 : Nat) : Int) == 1) = true := rfl
                    (simp (disch := first | decide | omega | (simp only [nx]; first | done | omega)) only [go_sem, h4, h5, h6, h7, b1, b2, h8, hx, List.map_cons, List.map_nil, List.length_singleton, w1]; (repeat with_reducible refine aI ?_))
                    refine DCalls.of_pure (ih (by omega) k x (roomL_in hroom hxm) (okL_in hok hxm)) ?_
                    (simp (disch := first | decide | omega | (simp only [nx]; first | done | omega)) only [go_sem]; (repeat with_reducible refine aI ?_))
                    refine ⟨?_, (by (repeat' first | assumption | exact St.Sub.refl _ | exact RowOk.sub (by assumption) (by assumption) | refine St.Sub.trans ?_ (RowOk.sub (by assumption) (by assumption)) | refine St.Sub.add ?_ ?_ _ | refine St.Sub.set ?_ ?_ ?_ _ | refine St.Sub.keep ?_ ?_ | refine St.WF.leave ?_ _ | refine St.WF.add ?_ _ | refine St.WF.set ?_ ?_ _ | refine St.WF.grow ?_ _ _ _ | refine St.WF.keep ?_ ?_ | (first | omega | (simp only [RowOk.lo, nx]; first | done | omega))))⟩
                    refine fin ?_
                    rw [eq_comm, hR]
                    simp [h4, h5, h6, h7, hx]
                  · have b1 : (((l.inner.length : Nat) : Int) == 1) = false := by rw [beq_eq_false_iff_ne]; omega
                    (simp (disch := first | decide | omega | (simp only [nx]; first | done | omega)) only [go_sem, h4, h5, h6, h7, b1]; (repeat with_reducible refine aI ?_))
                    refine ⟨?_, (by (repeat' first | assumption | exact St.Sub.refl _ | exact RowOk.sub (by assumption) (by assumption) | refine St.Sub.trans ?_ (RowOk.sub (by assumption) (by assumption)) | refine St.Sub.add ?_ ?_ _ | refine St.Sub.set ?_ ?_ ?_ _ | refine St.Sub.keep ?_ ?_ | refine St.WF.leave ?_ _ | refine St.WF.add ?_ _ | refine St.WF.set ?_ ?_ _ | refine St.WF.grow ?_ _ _ _ | refine St.WF.keep ?_ ?_ | (first | omega | (simp only [RowOk.lo, nx]; first | done | omega))))⟩
                    refine fin ?_
                    rw [eq_comm, hR]
                    simp [h4, h5, h6, h7, h8]
theorem lensRight_d (k : Nat) (l : DLens) (hr : roomL k l = true) (hok : okL l) : DPure Tryz.prog 54 [encL l] (.v (.bool (rightL 5 l))) := by
  refine dpure_of_dwp mixed Tryz.func54 rfl (fun _ _ => by kernel_rfl) (rs := [.tmp 2]) rfl (by kernel_rfl) trivial (fun S hS => ?_)
  (simp (disch := first | decide | omega | (simp only [nx]; first | done | omega)) only [go_sem]; (repeat with_reducible refine aI ?_))
  refine DCalls.of_pure (right_dL 5 (by omega) k l hr hok) ?_
  (simp (disch := first | decide | omega | (simp only [nx]; first | done | omega)) only [go_sem]; (repeat with_reducible refine aI ?_))
  refine ⟨?_, (by (repeat' first | assumption | exact St.Sub.refl _ | exact RowOk.sub (by assumption) (by assumption) | refine St.Sub.trans ?_ (RowOk.sub (by assumption) (by assumption)) | refine St.Sub.add ?_ ?_ _ | refine St.Sub.set ?_ ?_ ?_ _ | refine St.Sub.keep ?_ ?_ | refine St.WF.leave ?_ _ | refine St.WF.add ?_ _ | refine St.WF.set ?_ ?_ _ | refine St.WF.grow ?_ _ _ _ | refine St.WF.keep ?_ ?_ | (first | omega | (simp only [RowOk.lo, nx]; first | done | omega))))⟩
  rfl
end
end Go.Proofs.YtogbklnkpjjkoaaGreatDoor

namespace Go.Proofs.YtogbklnkpjjkoaaGreatDoor
open Go.RowKit
theorem weights_app (a b : List DSch) : DSch.weights (a ++ b) = DSch.weights a + DSch.weights b := by
  induction a with
  | nil => simp [DSch.weights]
  | cons p l ih => simp only [List.cons_append, DSch.weights, ih]; omega
theorem weights_td (l : List DSch) (k : Nat) : DSch.weights (l.take k) + DSch.weights (l.drop k) = DSch.weights l := by
  rw [← weights_app, List.take_append_drop]
theorem weights_drop (l : List DSch) (k : Nat) : DSch.weights (l.drop k) ≤ DSch.weights l := by have := weights_td l k; omega
theorem weights_set (l : List DSch) (k : Nat) (p : DSch) : DSch.weights (l.set k p) ≤ DSch.weights l + p.weight := by
  induction l generalizing k with
  | nil => simp [DSch.weights]
  | cons q l ih =>
    cases k with
    | zero => simp only [List.set_cons_zero, DSch.weights]; omega
    | succ k => simp only [List.set_cons_succ, DSch.weights]; have := ih k; omega
def Wt (s : DSch) (n : Nat) : Prop := okS s ∧ s.weight ≤ n
theorem Wt.le {s : DSch} {n m : Nat} (h : Wt s n) (hl : n ≤ m) : Wt s m := ⟨h.1, Nat.le_trans h.2 hl⟩
theorem len_of_weight {s : DSch} : s.words.length ≤ s.weight ∧ s.parts.length ≤ s.weight := ⟨(sPartsLen s).2, (sPartsLen s).1⟩
theorem Wt.of {k : Int} {ws : List Str} {ps : List DSch} {n : Nat} (hk : I64 k) (hw : ∀ x ∈ ws, x.length ≤ maxLen) (hp : ∀ p ∈ ps, okS p) (hn : 1 + ws.length + DSch.weights ps ≤ n) (hs : n ≤ 1000000) : Wt (.mk k ws ps) n := by
  have h1 : (DSch.mk k ws ps).weight ≤ n := by rw [DSch.weight_eq]; exact hn
  have h2 := len_of_weight (s := .mk k ws ps)
  refine ⟨(okS_eq _).2 ⟨hk, hw, ?_, ?_, hp⟩, h1⟩
  · exact Nat.le_trans h2.1 (by omega)
  · exact Nat.le_trans h2.2 (by omega)
theorem withS_wt {v p : DSch} {x : Str} {n m : Nat} (hv : Wt v n) (hp : Wt p m) (hx : x.length ≤ maxLen) (hs : n + m + 1 ≤ 1000000) : Wt (withS v x p) (n + m + 1) := by
  obtain ⟨o1, o2, o3, o4, o5⟩ := (okS_eq v).1 hv.1
  have hwe := v.weight_eq
  have h1 := hv.2
  have h2 := hp.2
  unfold withS
  split
  · exact hv.le (by omega)
  split
  · refine Wt.of o1 o2 (fun q hq => ?_) (by have := weights_set v.parts (ixN v.words x) p; omega) hs
    rcases List.mem_or_eq_of_mem_set hq with h | h
    · exact o5 _ h
    · exact h ▸ hp.1
  · refine Wt.of o1 (fun y hy => ?_) (fun q hq => ?_) ?_ hs
    · rcases List.mem_append.1 hy with h | h
      · rcases List.mem_append.1 h with h | h
        · exact o2 _ (List.mem_of_mem_take h)
        · exact List.mem_singleton.1 h ▸ hx
      · exact o2 _ (List.mem_of_mem_drop h)
    · rcases List.mem_append.1 hq with h | h
      · rcases List.mem_append.1 h with h | h
        · exact o5 _ (List.mem_of_mem_take h)
        · exact List.mem_singleton.1 h ▸ hp.1
      · exact o5 _ (List.mem_of_mem_drop h)
    · have := weights_td v.parts (atN v.words x)
      simp only [weights_app, DSch.weights, List.length_append, List.length_take, List.length_drop, List.length_singleton]
      omega
theorem withoutS_wt {v : DSch} {x : Str} {n : Nat} (hv : Wt v n) (hs : n ≤ 1000000) : Wt (withoutS v x) n := by
  obtain ⟨o1, o2, o3, o4, o5⟩ := (okS_eq v).1 hv.1
  have hwe := v.weight_eq
  have h1 := hv.2
  unfold withoutS
  split
  · refine Wt.of o1 (fun y hy => ?_) (fun q hq => ?_) ?_ hs
    · rcases List.mem_append.1 hy with h | h
      · exact o2 _ (List.mem_of_mem_take h)
      · exact o2 _ (List.mem_of_mem_drop h)
    · rcases List.mem_append.1 hq with h | h
      · exact o5 _ (List.mem_of_mem_take h)
      · exact o5 _ (List.mem_of_mem_drop h)
    · have h3 := weights_td v.parts (ixN v.words x)
      have h4 : DSch.weights (v.parts.drop (ixN v.words x + 1)) ≤ DSch.weights (v.parts.drop (ixN v.words x)) := by
        rw [← List.drop_drop]
        exact weights_drop _ _
      simp only [weights_app, List.length_append, List.length_take, List.length_drop]
      omega
  · exact hv
theorem zeroS_wt (n : Nat) (h : 1 ≤ n) : Wt zeroS n := ⟨zeroS_ok, h⟩
theorem field_wt {v : DSch} {n : Nat} (x : Str) (hv : Wt v n) (h1 : 1 ≤ n) : Wt ((fieldS v x).getD zeroS) n := by
  unfold fieldS
  split
  · rename_i h
    by_cases hl : ixN v.words x < v.parts.length
    · rw [Option.getD_some, getD_at hl]
      have hm := List.getElem_mem hl
      exact ⟨((okS_eq v).1 hv.1).2.2.2.2 _ hm, by have := DSch.weight_part hm; have := hv.2; omega⟩
    · have : v.parts.getD (ixN v.words x) default = zeroS := by simp [List.getD, hl]; rfl
      rw [Option.getD_some, this]
      exact zeroS_wt n h1
  · exact zeroS_wt n h1
noncomputable def besideS (l : DLens) (s a : DSch) (has : Bool) : DSch × Bool :=
  if l.kind = 1 then (withS (withoutS s l.a) l.b a, has && !(fieldS s l.b).isSome)
  else if l.kind = 2 then (withS s l.a l.typ, !has)
  else if l.kind = 3 then (withoutS s l.a, has && eqB a l.typ)
  else if l.kind = 4 then (withS (withS s l.a (withoutS a l.b)) l.b ((fieldS a l.b).getD zeroS), (fieldS a l.b).isSome && !(fieldS s l.b).isSome)
  else (withS (withoutS s l.b) l.a (withS a l.b ((fieldS s l.b).getD zeroS)), has && (fieldS s l.b).isSome && (a.kind == 5) && !(fieldS a l.b).isSome)
theorem besideS_wt {l : DLens} {s a : DSch} {has : Bool} {n m : Nat} (hl : okL l) (ht : l.typ.weight ≤ 300) (hs : Wt s n) (ha : Wt a m) (h1 : 1 ≤ n) (h2 : 1 ≤ m) (hb : n + n + m + m + 400 ≤ 1000000) : Wt (besideS l s a has).1 (n + n + m + m + 400) := by
  have ho := (okL_eq l).1 hl
  unfold besideS
  split
  · exact (withS_wt (withoutS_wt hs (by omega)) ha ho.2.2.1 (by omega)).le (by omega)
  split
  · exact (withS_wt hs (⟨ho.2.2.2.1, ht⟩ : Wt l.typ 300) ho.2.1 (by omega)).le (by omega)
  split
  · exact (withoutS_wt hs (by omega)).le (by omega)
  split
  · exact (withS_wt (withS_wt hs (withoutS_wt ha (by omega)) ho.2.1 (by omega)) (field_wt l.b ha h2) ho.2.2.1 (by omega)).le (by omega)
  · exact (withS_wt (withoutS_wt hs (by omega)) (withS_wt ha (field_wt l.b hs h1) ho.2.2.1 (by omega)) ho.2.1 (by omega)).le (by omega)
section
variable {P : Program} {f : Fm} {md : Region.Mode} {Zs : St → Prop}
theorem s_takeG {Q : Fm → St → Prop} (i : Nat) {l : List Oper} {dst : Option Tmp} {op : Op} {ty : TypeId} {pos : String} {aft : Array Edge} {j : Nat} {want : Bool} {og : Oper} {t : Tmp} {fuel : Nat} {L : Array Bool} {S : St} (hi : nth l i = some ⟨dst, op, ty, pos, aft, some (j, want)⟩) (hj : nth l j = some og) (ht : og.dst = some t) (hft : f t = .v (.bool want))
    (hr : (Region.ready md (List.toArray l) L).contains i = true) (hf : Region.free md (List.toArray l) L i = true) {v : D}
    (hq : ∀ S, Zs S → dquietR P f S ty op v) (h : sAny P md (List.toArray l) Zs Q fuel (L.setIfInBounds i true) (put f dst v) S) : sAny P md (List.toArray l) Zs Q (fuel + 1) L f S :=
  have hi : (List.toArray l)[i]? = some ⟨dst, op, ty, pos, aft, some (j, want)⟩ := by rw [← hi, nth_eq]; simp
  have hj' : (List.toArray l)[j]? = some og := by rw [← hj, nth_eq]; simp
  have hg : gval (List.toArray l) f ⟨dst, op, ty, pos, aft, some (j, want)⟩ = some true := by
    simp only [gval, hj', Option.bind_some, ht, hft, beq_self_eq_true]
  sAny_first hi fuel L f S (Region.free_spec hi hf) (by simpa using hr) (.inl ⟨hg, hq⟩) h
theorem s_skipG {Q : Fm → St → Prop} (i : Nat) {l : List Oper} {dst : Option Tmp} {op : Op} {ty : TypeId} {pos : String} {aft : Array Edge} {j : Nat} {want : Bool} {og : Oper} {t : Tmp} {fuel : Nat} {L : Array Bool} {S : St} (hi : nth l i = some ⟨dst, op, ty, pos, aft, some (j, want)⟩) (hj : nth l j = some og) (ht : og.dst = some t) (hft : f t = .v (.bool !want) ∨ f t = undefD)
    (hr : (Region.ready md (List.toArray l) L).contains i = true) (hf : Region.free md (List.toArray l) L i = true)
    (h : sAny P md (List.toArray l) Zs Q fuel (L.setIfInBounds i true) (put f dst undefD) S) : sAny P md (List.toArray l) Zs Q (fuel + 1) L f S :=
  have hi : (List.toArray l)[i]? = some ⟨dst, op, ty, pos, aft, some (j, want)⟩ := by rw [← hi, nth_eq]; simp
  have hj' : (List.toArray l)[j]? = some og := by rw [← hj, nth_eq]; simp
  have hg : gval (List.toArray l) f ⟨dst, op, ty, pos, aft, some (j, want)⟩ = some false := by
    rcases hft with hft | hft
    · simp only [gval, hj', Option.bind_some, ht, hft]
      cases want <;> rfl
    · simp only [gval, hj', Option.bind_some, ht, hft, undefD]
  sAny_first hi fuel L f S (Region.free_spec hi hf) (by simpa using hr) (.inr ⟨hg, rfl⟩) h
end
section
set_option maxRecDepth 200000
set_option maxHeartbeats 8000000
theorem record_d (s : DSch) (x : Str) (hok : okS s) (hw : s.weight ≤ 1000000) : DPure Tryz.prog 76 [encS s, .v (sv x)] (.tup [.v (.bool (s.kind == 5)), .v (.bool (fieldS s x).isSome)]) := by
  refine dpure_of_dwp mixed Tryz.func76 rfl (fun _ _ => by kernel_rfl) (rs := [.tmp 4, .tmp 5]) rfl (by kernel_rfl) (by simp [D.closed, D.all, allL]) (fun S hS => ?_)
  (simp (disch := first | decide | omega | (simp only [nx]; first | done | omega)) only [go_sem]; (repeat with_reducible refine aI ?_))
  refine DCalls.of_pure (fieldS_d s x hok hw) ?_
  (simp (disch := first | decide | omega | (simp only [nx]; first | done | omega)) only [go_sem, tupS, encS_eq]; (repeat with_reducible refine aI ?_))
  refine ⟨?_, (by (repeat' first | assumption | exact St.Sub.refl _ | exact RowOk.sub (by assumption) (by assumption) | refine St.Sub.trans ?_ (RowOk.sub (by assumption) (by assumption)) | refine St.Sub.add ?_ ?_ _ | refine St.Sub.set ?_ ?_ ?_ _ | refine St.Sub.keep ?_ ?_ | refine St.WF.leave ?_ _ | refine St.WF.add ?_ _ | refine St.WF.set ?_ ?_ _ | refine St.WF.grow ?_ _ _ _ | refine St.WF.keep ?_ ?_ | (first | omega | (simp only [RowOk.lo, nx]; first | done | omega))))⟩
  rfl
theorem tupB_cl (s : DSch) (b : Bool) : (D.tup [encS s, .v (.bool b)]).closed := by
  simp only [D.closed, D.all, allL, and_true]; exact closed_encS _
def tupBs (p : DSch × Bool) : D := .tup [encS p.1, .v (.bool p.2)]
theorem tupBs_cl (p : DSch × Bool) : (tupBs p).closed := tupB_cl _ _
theorem beside_d (l : DLens) (s a : DSch) (has : Bool) (hl : okL l) (ht : l.typ.weight ≤ 300) (hs : Wt s 45000) (ha : Wt a 45000) :
    DPure Tryz.prog 78 [encL l, encS s, encS a, .v (.bool has)] (tupBs (besideS l s a has)) := by
  have ho := (okL_eq l).1 hl
  have oa := ho.2.1
  have ob := ho.2.2.1
  have ot : Wt l.typ 300 := ⟨ho.2.2.2.1, ht⟩
  have fin : ∀ {x : DSch} {b c : Bool} {r : DSch × Bool}, r = (x, c) → b = c → (D.tup [encS x, .v (.bool b)]).frz = tupBs r := fun h h2 => by rw [h, h2]; simp only [D.frz, frzL, frz_encS, tupBs]
  refine dpure_of_dwp mixed Tryz.func78 rfl (fun _ _ => by kernel_rfl) (rs := [.cell 8 25, .tmp 9]) rfl (by kernel_rfl) (tupBs_cl _) (fun S hS => ?_)
  by_cases k1 : l.kind = 1
  · have b1 : (l.kind == 1) = true := by simp [k1]
    have hr : besideS l s a has = (withS (withoutS s l.a) l.b a, has && !(fieldS s l.b).isSome) := by rw [besideS, if_pos k1]
    (simp (disch := first | decide | omega | (simp only [nx]; first | done | omega)) only [go_sem, encL_eq l, b1]; (repeat with_reducible refine aI ?_))
    refine DCalls.of_pure (record_d s l.b hs.1 (by have := hs.2; omega)) ?_
    (simp (disch := first | decide | omega | (simp only [nx]; first | done | omega)) only [go_sem]; (repeat with_reducible refine aI ?_))
    have hS1 := ((((hS.add (.box 47 (encL l).cells)).add (.box 25 (encS s).cells)).add (.box 25 (encS a).cells)).add (.box 25 [.v (.int .i64 0), .sl .full [], .sl .full []]))
    refine ddraw_any (fun S' => S'.ob S.next = some (.box 47 (encL l).cells) ∧ S'.ob (S.next + 1) = some (.box 25 (encS s).cells) ∧ S'.ob (S.next + 1 + 1) = some (.box 25 (encS a).cells)) 15 (by (first | (simp (disch := first | decide | omega | (simp only [nx]; first | done | omega)) only [go_sem, encL_eq l]; first | done | rfl) | rfl)) (by kernel_rfl) ?_
    (refine s_take 0 rfl (by kernel_rfl) (by kernel_rfl) (v := ?v1) (fun S' hz => dquietR_of ?h1) <| s_take 1 rfl (by kernel_rfl) (by kernel_rfl) (v := ?v2) (fun S' hz => dquietR_of ?h2) <| s_take 2 rfl (by kernel_rfl) (by kernel_rfl) (v := ?v3) (fun S' hz => dquietR_of ?h3) <| ?k3; (case h1 | h2 | h3 => ((simp (disch := first | decide | omega | (simp only [nx]; first | done | omega)) only [go_sem, hz.1, hz.2.1, hz.2.2, encL_eq l, hz]; (repeat with_reducible refine aI ?_)); first | done | exact rfl | omega)))
    (refine s_take 3 rfl (by kernel_rfl) (by kernel_rfl) (v := ?v4) (fun S' hz => dquietR_of ?h4) ?k4; (case h4 => ((simp (disch := first | decide | omega | (simp only [nx]; first | done | omega)) only [go_sem, hz]; (repeat with_reducible refine aI ?_)); refine dqgo_mk (withoutS_d s l.a hs.1 (by have := hs.2; omega) oa) ?_; exact rfl)))
    (refine s_take 4 rfl (by kernel_rfl) (by kernel_rfl) (v := ?v5) (fun S' hz => dquietR_of ?h5) <| s_take 5 rfl (by kernel_rfl) (by kernel_rfl) (v := ?v6) (fun S' hz => dquietR_of ?h6) <| s_take 6 rfl (by kernel_rfl) (by kernel_rfl) (v := ?v7) (fun S' hz => dquietR_of ?h7) <| ?k7; (case h5 | h6 | h7 => ((simp (disch := first | decide | omega | (simp only [nx]; first | done | omega)) only [go_sem, hz.1, hz.2.1, hz.2.2, encL_eq l, hz]; (repeat with_reducible refine aI ?_)); first | done | exact rfl | omega)))
    (refine s_take 7 rfl (by kernel_rfl) (by kernel_rfl) (v := ?v8) (fun S' hz => dquietR_of ?h8) ?k8; (case h8 => ((simp (disch := first | decide | omega | (simp only [nx]; first | done | omega)) only [go_sem, hz]; (repeat with_reducible refine aI ?_)); refine dqgo_mk (withS_d (withoutS s l.a) a l.b (withoutS_wt hs (by omega)).1 ha.1 (by have := (withoutS_wt (x := l.a) hs (by omega)).2; omega) (by have := ha.2; omega) ob) ?_; exact rfl)))
    (refine s_take 8 rfl (by kernel_rfl) (by kernel_rfl) (v := ?v9) (fun S' hz => dquietR_of ?h9) <| s_take 9 rfl (by kernel_rfl) (by kernel_rfl) (v := ?v10) (fun S' hz => dquietR_of ?h10) <| ?k10; (case h9 | h10 => ((simp (disch := first | decide | omega | (simp only [nx]; first | done | omega)) only [go_sem, hz]; (repeat with_reducible refine aI ?_)); first | done | exact rfl | omega)))
    cases has with
    | false =>
      (refine s_skipG 10 rfl rfl rfl (by first | (left; (first | (simp (disch := first | decide | omega | (simp only [nx]; first | done | omega)) only [go_sem]; first | done | rfl) | rfl); done) | (right; (first | (simp (disch := first | decide | omega | (simp only [nx]; first | done | omega)) only [go_sem]; first | done | rfl) | rfl); done)) (by kernel_rfl) (by kernel_rfl) ?_; refine s_skipG 11 rfl rfl rfl (by first | (left; (first | (simp (disch := first | decide | omega | (simp only [nx]; first | done | omega)) only [go_sem]; first | done | rfl) | rfl); done) | (right; (first | (simp (disch := first | decide | omega | (simp only [nx]; first | done | omega)) only [go_sem]; first | done | rfl) | rfl); done)) (by kernel_rfl) (by kernel_rfl) ?_)
      (refine s_take 12 rfl (by kernel_rfl) (by kernel_rfl) (v := ?v11) (fun S' hz => dquietR_of ?h11) ?k11; (case h11 => ((simp (disch := first | decide | omega | (simp only [nx]; first | done | omega)) only [go_sem, hz]; (repeat with_reducible refine aI ?_)); first | done | exact rfl | omega)))
      (refine s_split [13] (by kernel_rfl) (by simp) ?_; intro j_ hj_; obtain rfl : j_ = 13 := (by simpa using hj_); clear hj_; refine s_op rfl ?_; (simp (disch := first | decide | omega | (simp only [nx]; first | done | omega)) only [go_sem]; (repeat with_reducible refine aI ?_)))
      refine ⟨by rw [encL_eq]; rfl, ?_⟩
      (refine s_take 14 rfl (by kernel_rfl) (by kernel_rfl) (v := ?v12) (fun S' hz => dquietR_of ?h12) ?k12; (case h12 => ((simp (disch := first | decide | omega | (simp only [nx]; first | done | omega)) only [go_sem, hz]; (repeat with_reducible refine aI ?_)); first | done | exact rfl | omega)))
      (refine s_done (by kernel_rfl) ?_; (simp (disch := first | decide | omega | (simp only [nx]; first | done | omega)) only [go_sem]; (repeat with_reducible refine aI ?_)))
      refine ⟨?_, (by (repeat' first | assumption | exact St.Sub.refl _ | exact RowOk.sub (by assumption) (by assumption) | refine St.Sub.trans ?_ (RowOk.sub (by assumption) (by assumption)) | refine St.Sub.add ?_ ?_ _ | refine St.Sub.set ?_ ?_ ?_ _ | refine St.Sub.keep ?_ ?_ | refine St.WF.leave ?_ _ | refine St.WF.add ?_ _ | refine St.WF.set ?_ ?_ _ | refine St.WF.grow ?_ _ _ _ | refine St.WF.keep ?_ ?_ | (first | omega | (simp only [RowOk.lo, nx]; first | done | omega))))⟩
      exact fin hr rfl
    | true =>
      (refine s_takeG 10 rfl rfl rfl (by (first | (simp (disch := first | decide | omega | (simp only [nx]; first | done | omega)) only [go_sem]; first | done | rfl) | rfl)) (by kernel_rfl) (by kernel_rfl) (v := ?v13) (fun S' hz => dquietR_of ?h13) ?k13; (case h13 => ((simp (disch := first | decide | omega | (simp only [nx]; first | done | omega)) only [go_sem, hz]; (repeat with_reducible refine aI ?_)); first | done | exact rfl | omega)); refine s_takeG 11 rfl rfl rfl (by (first | (simp (disch := first | decide | omega | (simp only [nx]; first | done | omega)) only [go_sem]; first | done | rfl) | rfl)) (by kernel_rfl) (by kernel_rfl) (v := ?v14) (fun S' hz => dquietR_of ?h14) ?k14; (case h14 => ((simp (disch := first | decide | omega | (simp only [nx]; first | done | omega)) only [go_sem, hz]; (repeat with_reducible refine aI ?_)); first | done | exact rfl | omega)))
      (refine s_take 12 rfl (by kernel_rfl) (by kernel_rfl) (v := ?v15) (fun S' hz => dquietR_of ?h15) ?k15; (case h15 => ((simp (disch := first | decide | omega | (simp only [nx]; first | done | omega)) only [go_sem, hz]; (repeat with_reducible refine aI ?_)); first | done | exact rfl | omega)))
      (refine s_split [13] (by kernel_rfl) (by simp) ?_; intro j_ hj_; obtain rfl : j_ = 13 := (by simpa using hj_); clear hj_; refine s_op rfl ?_; (simp (disch := first | decide | omega | (simp only [nx]; first | done | omega)) only [go_sem]; (repeat with_reducible refine aI ?_)))
      refine ⟨by rw [encL_eq]; rfl, ?_⟩
      (refine s_take 14 rfl (by kernel_rfl) (by kernel_rfl) (v := ?v16) (fun S' hz => dquietR_of ?h16) ?k16; (case h16 => ((simp (disch := first | decide | omega | (simp only [nx]; first | done | omega)) only [go_sem, hz]; (repeat with_reducible refine aI ?_)); first | done | exact rfl | omega)))
      (refine s_done (by kernel_rfl) ?_; (simp (disch := first | decide | omega | (simp only [nx]; first | done | omega)) only [go_sem]; (repeat with_reducible refine aI ?_)))
      refine ⟨?_, (by (repeat' first | assumption | exact St.Sub.refl _ | exact RowOk.sub (by assumption) (by assumption) | refine St.Sub.trans ?_ (RowOk.sub (by assumption) (by assumption)) | refine St.Sub.add ?_ ?_ _ | refine St.Sub.set ?_ ?_ ?_ _ | refine St.Sub.keep ?_ ?_ | refine St.WF.leave ?_ _ | refine St.WF.add ?_ _ | refine St.WF.set ?_ ?_ _ | refine St.WF.grow ?_ _ _ _ | refine St.WF.keep ?_ ?_ | (first | omega | (simp only [RowOk.lo, nx]; first | done | omega))))⟩
      exact fin hr rfl
  have b1 : (l.kind == 1) = false := by simp [k1]
  have hs2 := hs.2
  have ha2 := ha.2
  by_cases k2 : l.kind = 2
  · have b2 : (l.kind == 2) = true := by simp [k2]
    have hr : besideS l s a has = (withS s l.a l.typ, !has) := by rw [besideS, if_neg k1, if_pos k2]
    (simp (disch := first | decide | omega | (simp only [nx]; first | done | omega)) only [go_sem, encL_eq l, b1, b2]; (repeat with_reducible refine aI ?_))
    rw [aggS_fold]
    refine DCalls.of_pure (withS_d s l.typ l.a hs.1 ot.1 (by omega) (by omega) oa) ?_
    (simp (disch := first | decide | omega | (simp only [nx]; first | done | omega)) only [go_sem]; (repeat with_reducible refine aI ?_))
    refine ⟨?_, (by (repeat' first | assumption | exact St.Sub.refl _ | exact RowOk.sub (by assumption) (by assumption) | refine St.Sub.trans ?_ (RowOk.sub (by assumption) (by assumption)) | refine St.Sub.add ?_ ?_ _ | refine St.Sub.set ?_ ?_ ?_ _ | refine St.Sub.keep ?_ ?_ | refine St.WF.leave ?_ _ | refine St.WF.add ?_ _ | refine St.WF.set ?_ ?_ _ | refine St.WF.grow ?_ _ _ _ | refine St.WF.keep ?_ ?_ | (first | omega | (simp only [RowOk.lo, nx]; first | done | omega))))⟩
    exact fin hr rfl
  have b2 : (l.kind == 2) = false := by simp [k2]
  by_cases k3 : l.kind = 3
  · have b3 : (l.kind == 3) = true := by simp [k3]
    have hr : besideS l s a has = (withoutS s l.a, has && eqB a l.typ) := by rw [besideS, if_neg k1, if_neg k2, if_pos k3]
    (simp (disch := first | decide | omega | (simp only [nx]; first | done | omega)) only [go_sem, encL_eq l, b1, b2, b3]; (repeat with_reducible refine aI ?_))
    refine DCalls.of_pure (withoutS_d s l.a hs.1 (by omega) oa) ?_
    cases has with
    | false =>
      (simp (disch := first | decide | omega | (simp only [nx]; first | done | omega)) only [go_sem]; (repeat with_reducible refine aI ?_))
      refine ⟨?_, (by (repeat' first | assumption | exact St.Sub.refl _ | exact RowOk.sub (by assumption) (by assumption) | refine St.Sub.trans ?_ (RowOk.sub (by assumption) (by assumption)) | refine St.Sub.add ?_ ?_ _ | refine St.Sub.set ?_ ?_ ?_ _ | refine St.Sub.keep ?_ ?_ | refine St.WF.leave ?_ _ | refine St.WF.add ?_ _ | refine St.WF.set ?_ ?_ _ | refine St.WF.grow ?_ _ _ _ | refine St.WF.keep ?_ ?_ | (first | omega | (simp only [RowOk.lo, nx]; first | done | omega))))⟩
      exact fin hr rfl
    | true =>
      (simp (disch := first | decide | omega | (simp only [nx]; first | done | omega)) only [go_sem]; (repeat with_reducible refine aI ?_))
      rw [aggS_fold]
      refine DCalls.of_pure (schSame_d a l.typ ha.1 ot.1) ?_
      (simp (disch := first | decide | omega | (simp only [nx]; first | done | omega)) only [go_sem]; (repeat with_reducible refine aI ?_))
      refine ⟨?_, (by (repeat' first | assumption | exact St.Sub.refl _ | exact RowOk.sub (by assumption) (by assumption) | refine St.Sub.trans ?_ (RowOk.sub (by assumption) (by assumption)) | refine St.Sub.add ?_ ?_ _ | refine St.Sub.set ?_ ?_ ?_ _ | refine St.Sub.keep ?_ ?_ | refine St.WF.leave ?_ _ | refine St.WF.add ?_ _ | refine St.WF.set ?_ ?_ _ | refine St.WF.grow ?_ _ _ _ | refine St.WF.keep ?_ ?_ | (first | omega | (simp only [RowOk.lo, nx]; first | done | omega))))⟩
      exact fin hr rfl
  have b3 : (l.kind == 3) = false := by simp [k3]
  by_cases k4 : l.kind = 4
  · have b4 : (l.kind == 4) = true := by simp [k4]
    have hr : besideS l s a has = (withS (withS s l.a (withoutS a l.b)) l.b ((fieldS a l.b).getD zeroS), (fieldS a l.b).isSome && !(fieldS s l.b).isSome) := by rw [besideS, if_neg k1, if_neg k2, if_neg k3, if_pos k4]
    have hx := field_wt l.b ha (by omega)
    have hy := withoutS_wt (x := l.b) ha (by omega)
    have hz4 := withS_wt hs hy oa (by omega)
    (simp (disch := first | decide | omega | (simp only [nx]; first | done | omega)) only [go_sem, encL_eq l, b1, b2, b3, b4]; (repeat with_reducible refine aI ?_))
    refine DCalls.of_pure (fieldS_d a l.b ha.1 (by omega)) ?_
    (simp (disch := first | decide | omega | (simp only [nx]; first | done | omega)) only [go_sem, tupS]; (repeat with_reducible refine aI ?_))
    refine DCalls.of_pure (record_d s l.b hs.1 (by omega)) ?_
    (simp (disch := first | decide | omega | (simp only [nx]; first | done | omega)) only [go_sem]; (repeat with_reducible refine aI ?_))
    refine ddraw_any (fun S' => S'.ob S.next = some (.box 47 (encL l).cells) ∧ S'.ob (S.next + 1) = some (.box 25 (encS s).cells) ∧ S'.ob (S.next + 1 + 1) = some (.box 25 (encS a).cells) ∧ S'.ob (S.next + 1 + 1 + 1 + 1) = some (.box 25 (encS ((fieldS a l.b).getD zeroS)).cells)) 19 (by (first | (simp (disch := first | decide | omega | (simp only [nx]; first | done | omega)) only [go_sem, encL_eq l]; first | done | rfl) | rfl)) (by kernel_rfl) ?_
    (refine s_take 0 rfl (by kernel_rfl) (by kernel_rfl) (v := ?v17) (fun S' hz => dquietR_of ?h17) <| s_take 1 rfl (by kernel_rfl) (by kernel_rfl) (v := ?v18) (fun S' hz => dquietR_of ?h18) <| s_take 2 rfl (by kernel_rfl) (by kernel_rfl) (v := ?v19) (fun S' hz => dquietR_of ?h19) <| s_take 3 rfl (by kernel_rfl) (by kernel_rfl) (v := ?v20) (fun S' hz => dquietR_of ?h20) <| s_take 4 rfl (by kernel_rfl) (by kernel_rfl) (v := ?v21) (fun S' hz => dquietR_of ?h21) <| s_take 5 rfl (by kernel_rfl) (by kernel_rfl) (v := ?v22) (fun S' hz => dquietR_of ?h22) <| ?k22; (case h17 | h18 | h19 | h20 | h21 | h22 => ((simp (disch := first | decide | omega | (simp only [nx]; first | done | omega)) only [go_sem, hz.1, hz.2.1, hz.2.2.1, hz.2.2.2, encL_eq l, hz]; (repeat with_reducible refine aI ?_)); first | done | exact rfl | omega)))
    (refine s_take 6 rfl (by kernel_rfl) (by kernel_rfl) (v := ?v23) (fun S' hz => dquietR_of ?h23) ?k23; (case h23 => ((simp (disch := first | decide | omega | (simp only [nx]; first | done | omega)) only [go_sem, hz]; (repeat with_reducible refine aI ?_)); refine dqgo_mk (withoutS_d a l.b ha.1 (by omega) ob) ?_; exact rfl)))
    (refine s_take 7 rfl (by kernel_rfl) (by kernel_rfl) (v := ?v24) (fun S' hz => dquietR_of ?h24) ?k24; (case h24 => ((simp (disch := first | decide | omega | (simp only [nx]; first | done | omega)) only [go_sem, hz]; (repeat with_reducible refine aI ?_)); refine dqgo_mk (withS_d s (withoutS a l.b) l.a hs.1 hy.1 (by omega) (by have := hy.2; omega) oa) ?_; exact rfl)))
    (refine s_take 8 rfl (by kernel_rfl) (by kernel_rfl) (v := ?v25) (fun S' hz => dquietR_of ?h25) <| s_take 9 rfl (by kernel_rfl) (by kernel_rfl) (v := ?v26) (fun S' hz => dquietR_of ?h26) <| s_take 10 rfl (by kernel_rfl) (by kernel_rfl) (v := ?v27) (fun S' hz => dquietR_of ?h27) <| ?k27; (case h25 | h26 | h27 => ((simp (disch := first | decide | omega | (simp only [nx]; first | done | omega)) only [go_sem, hz.1, hz.2.1, hz.2.2.1, hz.2.2.2, encL_eq l, hz]; (repeat with_reducible refine aI ?_)); first | done | exact rfl | omega)))
    (refine s_take 11 rfl (by kernel_rfl) (by kernel_rfl) (v := ?v28) (fun S' hz => dquietR_of ?h28) ?k28; (case h28 => ((simp (disch := first | decide | omega | (simp only [nx]; first | done | omega)) only [go_sem, hz]; (repeat with_reducible refine aI ?_)); refine dqgo_mk (withS_d _ _ l.b hz4.1 hx.1 (by have := hz4.2; omega) (by have := hx.2; omega) ob) ?_; exact rfl)))
    (refine s_take 12 rfl (by kernel_rfl) (by kernel_rfl) (v := ?v29) (fun S' hz => dquietR_of ?h29) <| s_take 13 rfl (by kernel_rfl) (by kernel_rfl) (v := ?v30) (fun S' hz => dquietR_of ?h30) <| ?k30; (case h29 | h30 => ((simp (disch := first | decide | omega | (simp only [nx]; first | done | omega)) only [go_sem, hz]; (repeat with_reducible refine aI ?_)); first | done | exact rfl | omega)))
    cases hf : (fieldS a l.b).isSome with
    | false =>
      (refine s_skipG 14 rfl rfl rfl (by first | (left; (first | (simp (disch := first | decide | omega | (simp only [nx]; first | done | omega)) only [go_sem, hf]; first | done | rfl) | rfl); done) | (right; (first | (simp (disch := first | decide | omega | (simp only [nx]; first | done | omega)) only [go_sem, hf]; first | done | rfl) | rfl); done)) (by kernel_rfl) (by kernel_rfl) ?_; refine s_skipG 15 rfl rfl rfl (by first | (left; (first | (simp (disch := first | decide | omega | (simp only [nx]; first | done | omega)) only [go_sem, hf]; first | done | rfl) | rfl); done) | (right; (first | (simp (disch := first | decide | omega | (simp only [nx]; first | done | omega)) only [go_sem, hf]; first | done | rfl) | rfl); done)) (by kernel_rfl) (by kernel_rfl) ?_)
      (refine s_take 16 rfl (by kernel_rfl) (by kernel_rfl) (v := ?v31) (fun S' hz => dquietR_of ?h31) ?k31; (case h31 => ((simp (disch := first | decide | omega | (simp only [nx]; first | done | omega)) only [go_sem, hf, hz]; (repeat with_reducible refine aI ?_)); first | done | exact rfl | omega)))
      (refine s_split [17] (by kernel_rfl) (by simp) ?_; intro j_ hj_; obtain rfl : j_ = 17 := (by simpa using hj_); clear hj_; refine s_op rfl ?_; (simp (disch := first | decide | omega | (simp only [nx]; first | done | omega)) only [go_sem]; (repeat with_reducible refine aI ?_)))
      refine ⟨by rw [encL_eq]; rfl, ?_⟩
      (refine s_take 18 rfl (by kernel_rfl) (by kernel_rfl) (v := ?v32) (fun S' hz => dquietR_of ?h32) ?k32; (case h32 => ((simp (disch := first | decide | omega | (simp only [nx]; first | done | omega)) only [go_sem, hz]; (repeat with_reducible refine aI ?_)); first | done | exact rfl | omega)))
      (refine s_done (by kernel_rfl) ?_; (simp (disch := first | decide | omega | (simp only [nx]; first | done | omega)) only [go_sem]; (repeat with_reducible refine aI ?_)))
      refine ⟨?_, (by (repeat' first | assumption | exact St.Sub.refl _ | exact RowOk.sub (by assumption) (by assumption) | refine St.Sub.trans ?_ (RowOk.sub (by assumption) (by assumption)) | refine St.Sub.add ?_ ?_ _ | refine St.Sub.set ?_ ?_ ?_ _ | refine St.Sub.keep ?_ ?_ | refine St.WF.leave ?_ _ | refine St.WF.add ?_ _ | refine St.WF.set ?_ ?_ _ | refine St.WF.grow ?_ _ _ _ | refine St.WF.keep ?_ ?_ | (first | omega | (simp only [RowOk.lo, nx]; first | done | omega))))⟩
      exact fin hr (by rw [hf]; rfl)
    | true =>
      (refine s_takeG 14 rfl rfl rfl (by (first | (simp (disch := first | decide | omega | (simp only [nx]; first | done | omega)) only [go_sem, hf]; first | done | rfl) | rfl)) (by kernel_rfl) (by kernel_rfl) (v := ?v33) (fun S' hz => dquietR_of ?h33) ?k33; (case h33 => ((simp (disch := first | decide | omega | (simp only [nx]; first | done | omega)) only [go_sem, hf, hz]; (repeat with_reducible refine aI ?_)); first | done | exact rfl | omega)); refine s_takeG 15 rfl rfl rfl (by (first | (simp (disch := first | decide | omega | (simp only [nx]; first | done | omega)) only [go_sem, hf]; first | done | rfl) | rfl)) (by kernel_rfl) (by kernel_rfl) (v := ?v34) (fun S' hz => dquietR_of ?h34) ?k34; (case h34 => ((simp (disch := first | decide | omega | (simp only [nx]; first | done | omega)) only [go_sem, hf, hz]; (repeat with_reducible refine aI ?_)); first | done | exact rfl | omega)))
      (refine s_take 16 rfl (by kernel_rfl) (by kernel_rfl) (v := ?v35) (fun S' hz => dquietR_of ?h35) ?k35; (case h35 => ((simp (disch := first | decide | omega | (simp only [nx]; first | done | omega)) only [go_sem, hf, hz]; (repeat with_reducible refine aI ?_)); first | done | exact rfl | omega)))
      (refine s_split [17] (by kernel_rfl) (by simp) ?_; intro j_ hj_; obtain rfl : j_ = 17 := (by simpa using hj_); clear hj_; refine s_op rfl ?_; (simp (disch := first | decide | omega | (simp only [nx]; first | done | omega)) only [go_sem]; (repeat with_reducible refine aI ?_)))
      refine ⟨by rw [encL_eq]; rfl, ?_⟩
      (refine s_take 18 rfl (by kernel_rfl) (by kernel_rfl) (v := ?v36) (fun S' hz => dquietR_of ?h36) ?k36; (case h36 => ((simp (disch := first | decide | omega | (simp only [nx]; first | done | omega)) only [go_sem, hz]; (repeat with_reducible refine aI ?_)); first | done | exact rfl | omega)))
      (refine s_done (by kernel_rfl) ?_; (simp (disch := first | decide | omega | (simp only [nx]; first | done | omega)) only [go_sem]; (repeat with_reducible refine aI ?_)))
      refine ⟨?_, (by (repeat' first | assumption | exact St.Sub.refl _ | exact RowOk.sub (by assumption) (by assumption) | refine St.Sub.trans ?_ (RowOk.sub (by assumption) (by assumption)) | refine St.Sub.add ?_ ?_ _ | refine St.Sub.set ?_ ?_ ?_ _ | refine St.Sub.keep ?_ ?_ | refine St.WF.leave ?_ _ | refine St.WF.add ?_ _ | refine St.WF.set ?_ ?_ _ | refine St.WF.grow ?_ _ _ _ | refine St.WF.keep ?_ ?_ | (first | omega | (simp only [RowOk.lo, nx]; first | done | omega))))⟩
      exact fin hr (by rw [hf]; rfl)
  have b4 : (l.kind == 4) = false := by simp [k4]
  have hr : besideS l s a has = (withS (withoutS s l.b) l.a (withS a l.b ((fieldS s l.b).getD zeroS)), has && (fieldS s l.b).isSome && (a.kind == 5) && !(fieldS a l.b).isSome) := by rw [besideS, if_neg k1, if_neg k2, if_neg k3, if_neg k4]
  have hx := field_wt l.b hs (by omega)
  have hy := withoutS_wt (x := l.b) hs (by omega)
  have hz5 := withS_wt ha hx ob (by omega)
  (simp (disch := first | decide | omega | (simp only [nx]; first | done | omega)) only [go_sem, encL_eq l, b1, b2, b3, b4]; (repeat with_reducible refine aI ?_))
  refine DCalls.of_pure (fieldS_d s l.b hs.1 (by omega)) ?_
  (simp (disch := first | decide | omega | (simp only [nx]; first | done | omega)) only [go_sem, tupS]; (repeat with_reducible refine aI ?_))
  refine DCalls.of_pure (record_d a l.b ha.1 (by omega)) ?_
  (simp (disch := first | decide | omega | (simp only [nx]; first | done | omega)) only [go_sem]; (repeat with_reducible refine aI ?_))
  refine ddraw_any (fun S' => S'.ob S.next = some (.box 47 (encL l).cells) ∧ S'.ob (S.next + 1) = some (.box 25 (encS s).cells) ∧ S'.ob (S.next + 1 + 1) = some (.box 25 (encS a).cells) ∧ S'.ob (S.next + 1 + 1 + 1 + 1) = some (.box 25 (encS ((fieldS s l.b).getD zeroS)).cells)) 25 (by (first | (simp (disch := first | decide | omega | (simp only [nx]; first | done | omega)) only [go_sem, encL_eq l]; first | done | rfl) | rfl)) (by kernel_rfl) ?_
  (refine s_take 0 rfl (by kernel_rfl) (by kernel_rfl) (v := ?v37) (fun S' hz => dquietR_of ?h37) <| s_take 1 rfl (by kernel_rfl) (by kernel_rfl) (v := ?v38) (fun S' hz => dquietR_of ?h38) <| s_take 2 rfl (by kernel_rfl) (by kernel_rfl) (v := ?v39) (fun S' hz => dquietR_of ?h39) <| ?k39; (case h37 | h38 | h39 => ((simp (disch := first | decide | omega | (simp only [nx]; first | done | omega)) only [go_sem, hz.1, hz.2.1, hz.2.2.1, hz.2.2.2, encL_eq l, hz]; (repeat with_reducible refine aI ?_)); first | done | exact rfl | omega)))
  (refine s_take 3 rfl (by kernel_rfl) (by kernel_rfl) (v := ?v40) (fun S' hz => dquietR_of ?h40) ?k40; (case h40 => ((simp (disch := first | decide | omega | (simp only [nx]; first | done | omega)) only [go_sem, hz]; (repeat with_reducible refine aI ?_)); refine dqgo_mk (withoutS_d s l.b hs.1 (by omega) ob) ?_; exact rfl)))
  (refine s_take 4 rfl (by kernel_rfl) (by kernel_rfl) (v := ?v41) (fun S' hz => dquietR_of ?h41) <| s_take 5 rfl (by kernel_rfl) (by kernel_rfl) (v := ?v42) (fun S' hz => dquietR_of ?h42) <| s_take 6 rfl (by kernel_rfl) (by kernel_rfl) (v := ?v43) (fun S' hz => dquietR_of ?h43) <| s_take 7 rfl (by kernel_rfl) (by kernel_rfl) (v := ?v44) (fun S' hz => dquietR_of ?h44) <| s_take 8 rfl (by kernel_rfl) (by kernel_rfl) (v := ?v45) (fun S' hz => dquietR_of ?h45) <| s_take 9 rfl (by kernel_rfl) (by kernel_rfl) (v := ?v46) (fun S' hz => dquietR_of ?h46) <| ?k46; (case h41 | h42 | h43 | h44 | h45 | h46 => ((simp (disch := first | decide | omega | (simp only [nx]; first | done | omega)) only [go_sem, hz.1, hz.2.1, hz.2.2.1, hz.2.2.2, encL_eq l, hz]; (repeat with_reducible refine aI ?_)); first | done | exact rfl | omega)))
  (refine s_take 10 rfl (by kernel_rfl) (by kernel_rfl) (v := ?v47) (fun S' hz => dquietR_of ?h47) ?k47; (case h47 => ((simp (disch := first | decide | omega | (simp only [nx]; first | done | omega)) only [go_sem, hz]; (repeat with_reducible refine aI ?_)); refine dqgo_mk (withS_d a _ l.b ha.1 hx.1 (by omega) (by have := hx.2; omega) ob) ?_; exact rfl)))
  (refine s_take 11 rfl (by kernel_rfl) (by kernel_rfl) (v := ?v48) (fun S' hz => dquietR_of ?h48) ?k48; (case h48 => ((simp (disch := first | decide | omega | (simp only [nx]; first | done | omega)) only [go_sem, hz]; (repeat with_reducible refine aI ?_)); refine dqgo_mk (withS_d _ _ l.a hy.1 hz5.1 (by have := hy.2; omega) (by have := hz5.2; omega) oa) ?_; exact rfl)))
  (refine s_take 12 rfl (by kernel_rfl) (by kernel_rfl) (v := ?v49) (fun S' hz => dquietR_of ?h49) <| s_take 13 rfl (by kernel_rfl) (by kernel_rfl) (v := ?v50) (fun S' hz => dquietR_of ?h50) <| ?k50; (case h49 | h50 => ((simp (disch := first | decide | omega | (simp only [nx]; first | done | omega)) only [go_sem, hz]; (repeat with_reducible refine aI ?_)); first | done | exact rfl | omega)))
  cases has with
  | false =>
    (refine s_skipG 14 rfl rfl rfl (by first | (left; (first | (simp (disch := first | decide | omega | (simp only [nx]; first | done | omega)) only [go_sem]; first | done | rfl) | rfl); done) | (right; (first | (simp (disch := first | decide | omega | (simp only [nx]; first | done | omega)) only [go_sem]; first | done | rfl) | rfl); done)) (by kernel_rfl) (by kernel_rfl) ?_)
    (refine s_take 15 rfl (by kernel_rfl) (by kernel_rfl) (v := ?v51) (fun S' hz => dquietR_of ?h51) <| s_take 16 rfl (by kernel_rfl) (by kernel_rfl) (v := ?v52) (fun S' hz => dquietR_of ?h52) <| ?k52; (case h51 | h52 => ((simp (disch := first | decide | omega | (simp only [nx]; first | done | omega)) only [go_sem, hz]; (repeat with_reducible refine aI ?_)); first | done | exact rfl | omega)))
    (refine s_skipG 17 rfl rfl rfl (by first | (left; (first | (simp (disch := first | decide | omega | (simp only [nx]; first | done | omega)) only [go_sem]; first | done | rfl) | rfl); done) | (right; (first | (simp (disch := first | decide | omega | (simp only [nx]; first | done | omega)) only [go_sem]; first | done | rfl) | rfl); done)) (by kernel_rfl) (by kernel_rfl) ?_)
    (refine s_take 18 rfl (by kernel_rfl) (by kernel_rfl) (v := ?v53) (fun S' hz => dquietR_of ?h53) <| s_take 19 rfl (by kernel_rfl) (by kernel_rfl) (v := ?v54) (fun S' hz => dquietR_of ?h54) <| ?k54; (case h53 | h54 => ((simp (disch := first | decide | omega | (simp only [nx]; first | done | omega)) only [go_sem, hz]; (repeat with_reducible refine aI ?_)); first | done | exact rfl | omega)))
    (refine s_skipG 20 rfl rfl rfl (by first | (left; (first | (simp (disch := first | decide | omega | (simp only [nx]; first | done | omega)) only [go_sem]; first | done | rfl) | rfl); done) | (right; (first | (simp (disch := first | decide | omega | (simp only [nx]; first | done | omega)) only [go_sem]; first | done | rfl) | rfl); done)) (by kernel_rfl) (by kernel_rfl) ?_; refine s_skipG 21 rfl rfl rfl (by first | (left; (first | (simp (disch := first | decide | omega | (simp only [nx]; first | done | omega)) only [go_sem]; first | done | rfl) | rfl); done) | (right; (first | (simp (disch := first | decide | omega | (simp only [nx]; first | done | omega)) only [go_sem]; first | done | rfl) | rfl); done)) (by kernel_rfl) (by kernel_rfl) ?_)
    (refine s_take 22 rfl (by kernel_rfl) (by kernel_rfl) (v := ?v55) (fun S' hz => dquietR_of ?h55) ?k55; (case h55 => ((simp (disch := first | decide | omega | (simp only [nx]; first | done | omega)) only [go_sem, hz]; (repeat with_reducible refine aI ?_)); first | done | exact rfl | omega)))
    (refine s_split [23] (by kernel_rfl) (by simp) ?_; intro j_ hj_; obtain rfl : j_ = 23 := (by simpa using hj_); clear hj_; refine s_op rfl ?_; (simp (disch := first | decide | omega | (simp only [nx]; first | done | omega)) only [go_sem]; (repeat with_reducible refine aI ?_)))
    refine ⟨by rw [encL_eq]; rfl, ?_⟩
    (refine s_take 24 rfl (by kernel_rfl) (by kernel_rfl) (v := ?v56) (fun S' hz => dquietR_of ?h56) ?k56; (case h56 => ((simp (disch := first | decide | omega | (simp only [nx]; first | done | omega)) only [go_sem, hz]; (repeat with_reducible refine aI ?_)); first | done | exact rfl | omega)))
    (refine s_done (by kernel_rfl) ?_; (simp (disch := first | decide | omega | (simp only [nx]; first | done | omega)) only [go_sem]; (repeat with_reducible refine aI ?_)))
    refine ⟨?_, (by (repeat' first | assumption | exact St.Sub.refl _ | exact RowOk.sub (by assumption) (by assumption) | refine St.Sub.trans ?_ (RowOk.sub (by assumption) (by assumption)) | refine St.Sub.add ?_ ?_ _ | refine St.Sub.set ?_ ?_ ?_ _ | refine St.Sub.keep ?_ ?_ | refine St.WF.leave ?_ _ | refine St.WF.add ?_ _ | refine St.WF.set ?_ ?_ _ | refine St.WF.grow ?_ _ _ _ | refine St.WF.keep ?_ ?_ | (first | omega | (simp only [RowOk.lo, nx]; first | done | omega))))⟩
    exact fin hr rfl
  | true =>
    (refine s_takeG 14 rfl rfl rfl (by (first | (simp (disch := first | decide | omega | (simp only [nx]; first | done | omega)) only [go_sem]; first | done | rfl) | rfl)) (by kernel_rfl) (by kernel_rfl) (v := ?v57) (fun S' hz => dquietR_of ?h57) ?k57; (case h57 => ((simp (disch := first | decide | omega | (simp only [nx]; first | done | omega)) only [go_sem, hz]; (repeat with_reducible refine aI ?_)); first | done | exact rfl | omega)))
    (refine s_take 15 rfl (by kernel_rfl) (by kernel_rfl) (v := ?v58) (fun S' hz => dquietR_of ?h58) <| s_take 16 rfl (by kernel_rfl) (by kernel_rfl) (v := ?v59) (fun S' hz => dquietR_of ?h59) <| ?k59; (case h58 | h59 => ((simp (disch := first | decide | omega | (simp only [nx]; first | done | omega)) only [go_sem, hz]; (repeat with_reducible refine aI ?_)); first | done | exact rfl | omega)))
    cases hf : (fieldS s l.b).isSome with
    | false =>
      (refine s_skipG 17 rfl rfl rfl (by first | (left; (first | (simp (disch := first | decide | omega | (simp only [nx]; first | done | omega)) only [go_sem, hf]; first | done | rfl) | rfl); done) | (right; (first | (simp (disch := first | decide | omega | (simp only [nx]; first | done | omega)) only [go_sem, hf]; first | done | rfl) | rfl); done)) (by kernel_rfl) (by kernel_rfl) ?_)
      (refine s_take 18 rfl (by kernel_rfl) (by kernel_rfl) (v := ?v60) (fun S' hz => dquietR_of ?h60) <| s_take 19 rfl (by kernel_rfl) (by kernel_rfl) (v := ?v61) (fun S' hz => dquietR_of ?h61) <| ?k61; (case h60 | h61 => ((simp (disch := first | decide | omega | (simp only [nx]; first | done | omega)) only [go_sem, hf, hz]; (repeat with_reducible refine aI ?_)); first | done | exact rfl | omega)))
      (refine s_skipG 20 rfl rfl rfl (by first | (left; (first | (simp (disch := first | decide | omega | (simp only [nx]; first | done | omega)) only [go_sem, hf]; first | done | rfl) | rfl); done) | (right; (first | (simp (disch := first | decide | omega | (simp only [nx]; first | done | omega)) only [go_sem, hf]; first | done | rfl) | rfl); done)) (by kernel_rfl) (by kernel_rfl) ?_; refine s_skipG 21 rfl rfl rfl (by first | (left; (first | (simp (disch := first | decide | omega | (simp only [nx]; first | done | omega)) only [go_sem, hf]; first | done | rfl) | rfl); done) | (right; (first | (simp (disch := first | decide | omega | (simp only [nx]; first | done | omega)) only [go_sem, hf]; first | done | rfl) | rfl); done)) (by kernel_rfl) (by kernel_rfl) ?_)
      (refine s_take 22 rfl (by kernel_rfl) (by kernel_rfl) (v := ?v62) (fun S' hz => dquietR_of ?h62) ?k62; (case h62 => ((simp (disch := first | decide | omega | (simp only [nx]; first | done | omega)) only [go_sem, hf, hz]; (repeat with_reducible refine aI ?_)); first | done | exact rfl | omega)))
      (refine s_split [23] (by kernel_rfl) (by simp) ?_; intro j_ hj_; obtain rfl : j_ = 23 := (by simpa using hj_); clear hj_; refine s_op rfl ?_; (simp (disch := first | decide | omega | (simp only [nx]; first | done | omega)) only [go_sem]; (repeat with_reducible refine aI ?_)))
      refine ⟨by rw [encL_eq]; rfl, ?_⟩
      (refine s_take 24 rfl (by kernel_rfl) (by kernel_rfl) (v := ?v63) (fun S' hz => dquietR_of ?h63) ?k63; (case h63 => ((simp (disch := first | decide | omega | (simp only [nx]; first | done | omega)) only [go_sem, hz]; (repeat with_reducible refine aI ?_)); first | done | exact rfl | omega)))
      (refine s_done (by kernel_rfl) ?_; (simp (disch := first | decide | omega | (simp only [nx]; first | done | omega)) only [go_sem]; (repeat with_reducible refine aI ?_)))
      refine ⟨?_, (by (repeat' first | assumption | exact St.Sub.refl _ | exact RowOk.sub (by assumption) (by assumption) | refine St.Sub.trans ?_ (RowOk.sub (by assumption) (by assumption)) | refine St.Sub.add ?_ ?_ _ | refine St.Sub.set ?_ ?_ ?_ _ | refine St.Sub.keep ?_ ?_ | refine St.WF.leave ?_ _ | refine St.WF.add ?_ _ | refine St.WF.set ?_ ?_ _ | refine St.WF.grow ?_ _ _ _ | refine St.WF.keep ?_ ?_ | (first | omega | (simp only [RowOk.lo, nx]; first | done | omega))))⟩
      exact fin hr (by rw [hf]; rfl)
    | true =>
      (refine s_takeG 17 rfl rfl rfl (by (first | (simp (disch := first | decide | omega | (simp only [nx]; first | done | omega)) only [go_sem, hf]; first | done | rfl) | rfl)) (by kernel_rfl) (by kernel_rfl) (v := ?v64) (fun S' hz => dquietR_of ?h64) ?k64; (case h64 => ((simp (disch := first | decide | omega | (simp only [nx]; first | done | omega)) only [go_sem, hf, hz]; (repeat with_reducible refine aI ?_)); first | done | exact rfl | omega)))
      (refine s_take 18 rfl (by kernel_rfl) (by kernel_rfl) (v := ?v65) (fun S' hz => dquietR_of ?h65) <| s_take 19 rfl (by kernel_rfl) (by kernel_rfl) (v := ?v66) (fun S' hz => dquietR_of ?h66) <| ?k66; (case h65 | h66 => ((simp (disch := first | decide | omega | (simp only [nx]; first | done | omega)) only [go_sem, hf, hz]; (repeat with_reducible refine aI ?_)); first | done | exact rfl | omega)))
      cases hk : a.kind == 5 with
      | false =>
        (refine s_skipG 20 rfl rfl rfl (by first | (left; (first | (simp (disch := first | decide | omega | (simp only [nx]; first | done | omega)) only [go_sem, hf, hk]; first | done | rfl) | rfl); done) | (right; (first | (simp (disch := first | decide | omega | (simp only [nx]; first | done | omega)) only [go_sem, hf, hk]; first | done | rfl) | rfl); done)) (by kernel_rfl) (by kernel_rfl) ?_; refine s_skipG 21 rfl rfl rfl (by first | (left; (first | (simp (disch := first | decide | omega | (simp only [nx]; first | done | omega)) only [go_sem, hf, hk]; first | done | rfl) | rfl); done) | (right; (first | (simp (disch := first | decide | omega | (simp only [nx]; first | done | omega)) only [go_sem, hf, hk]; first | done | rfl) | rfl); done)) (by kernel_rfl) (by kernel_rfl) ?_)
        (refine s_take 22 rfl (by kernel_rfl) (by kernel_rfl) (v := ?v67) (fun S' hz => dquietR_of ?h67) ?k67; (case h67 => ((simp (disch := first | decide | omega | (simp only [nx]; first | done | omega)) only [go_sem, hf, hk, hz]; (repeat with_reducible refine aI ?_)); first | done | exact rfl | omega)))
        (refine s_split [23] (by kernel_rfl) (by simp) ?_; intro j_ hj_; obtain rfl : j_ = 23 := (by simpa using hj_); clear hj_; refine s_op rfl ?_; (simp (disch := first | decide | omega | (simp only [nx]; first | done | omega)) only [go_sem]; (repeat with_reducible refine aI ?_)))
        refine ⟨by rw [encL_eq]; rfl, ?_⟩
        (refine s_take 24 rfl (by kernel_rfl) (by kernel_rfl) (v := ?v68) (fun S' hz => dquietR_of ?h68) ?k68; (case h68 => ((simp (disch := first | decide | omega | (simp only [nx]; first | done | omega)) only [go_sem, hz]; (repeat with_reducible refine aI ?_)); first | done | exact rfl | omega)))
        (refine s_done (by kernel_rfl) ?_; (simp (disch := first | decide | omega | (simp only [nx]; first | done | omega)) only [go_sem]; (repeat with_reducible refine aI ?_)))
        refine ⟨?_, (by (repeat' first | assumption | exact St.Sub.refl _ | exact RowOk.sub (by assumption) (by assumption) | refine St.Sub.trans ?_ (RowOk.sub (by assumption) (by assumption)) | refine St.Sub.add ?_ ?_ _ | refine St.Sub.set ?_ ?_ ?_ _ | refine St.Sub.keep ?_ ?_ | refine St.WF.leave ?_ _ | refine St.WF.add ?_ _ | refine St.WF.set ?_ ?_ _ | refine St.WF.grow ?_ _ _ _ | refine St.WF.keep ?_ ?_ | (first | omega | (simp only [RowOk.lo, nx]; first | done | omega))))⟩
        exact fin hr (by rw [hf, hk]; rfl)
      | true =>
        (refine s_takeG 20 rfl rfl rfl (by (first | (simp (disch := first | decide | omega | (simp only [nx]; first | done | omega)) only [go_sem, hf, hk]; first | done | rfl) | rfl)) (by kernel_rfl) (by kernel_rfl) (v := ?v69) (fun S' hz => dquietR_of ?h69) ?k69; (case h69 => ((simp (disch := first | decide | omega | (simp only [nx]; first | done | omega)) only [go_sem, hf, hk, hz]; (repeat with_reducible refine aI ?_)); first | done | exact rfl | omega)); refine s_takeG 21 rfl rfl rfl (by (first | (simp (disch := first | decide | omega | (simp only [nx]; first | done | omega)) only [go_sem, hf, hk]; first | done | rfl) | rfl)) (by kernel_rfl) (by kernel_rfl) (v := ?v70) (fun S' hz => dquietR_of ?h70) ?k70; (case h70 => ((simp (disch := first | decide | omega | (simp only [nx]; first | done | omega)) only [go_sem, hf, hk, hz]; (repeat with_reducible refine aI ?_)); first | done | exact rfl | omega)))
        (refine s_take 22 rfl (by kernel_rfl) (by kernel_rfl) (v := ?v71) (fun S' hz => dquietR_of ?h71) ?k71; (case h71 => ((simp (disch := first | decide | omega | (simp only [nx]; first | done | omega)) only [go_sem, hf, hk, hz]; (repeat with_reducible refine aI ?_)); first | done | exact rfl | omega)))
        (refine s_split [23] (by kernel_rfl) (by simp) ?_; intro j_ hj_; obtain rfl : j_ = 23 := (by simpa using hj_); clear hj_; refine s_op rfl ?_; (simp (disch := first | decide | omega | (simp only [nx]; first | done | omega)) only [go_sem]; (repeat with_reducible refine aI ?_)))
        refine ⟨by rw [encL_eq]; rfl, ?_⟩
        (refine s_take 24 rfl (by kernel_rfl) (by kernel_rfl) (v := ?v72) (fun S' hz => dquietR_of ?h72) ?k72; (case h72 => ((simp (disch := first | decide | omega | (simp only [nx]; first | done | omega)) only [go_sem, hz]; (repeat with_reducible refine aI ?_)); first | done | exact rfl | omega)))
        (refine s_done (by kernel_rfl) ?_; (simp (disch := first | decide | omega | (simp only [nx]; first | done | omega)) only [go_sem]; (repeat with_reducible refine aI ?_)))
        refine ⟨?_, (by (repeat' first | assumption | exact St.Sub.refl _ | exact RowOk.sub (by assumption) (by assumption) | refine St.Sub.trans ?_ (RowOk.sub (by assumption) (by assumption)) | refine St.Sub.add ?_ ?_ _ | refine St.Sub.set ?_ ?_ ?_ _ | refine St.Sub.keep ?_ ?_ | refine St.WF.leave ?_ _ | refine St.WF.add ?_ _ | refine St.WF.set ?_ ?_ _ | refine St.WF.grow ?_ _ _ _ | refine St.WF.keep ?_ ?_ | (first | omega | (simp only [RowOk.lo, nx]; first | done | omega))))⟩
        exact fin hr (by rw [hf, hk]; rfl)
end
end Go.Proofs.YtogbklnkpjjkoaaGreatDoor

namespace Go.Proofs.YtogbklnkpjjkoaaGreatDoor
open Go.RowKit
noncomputable def withinS (tg : DLens → DSch → DSch × Bool) (l : DLens) (a : DSch) : DSch × Bool :=
  if l.kind = 6 then (.mk 6 [] [a], true)
  else if l.kind = 8 then (l.typ, scaS a && fitsTop l.back a && !(l.pairs.any fun p => !fitsTop p.1 a))
  else if l.kind = 9 then tg (l.inner.headD zeroL) a
  else if a.kind = 6 then
    (if l.kind = 7 then (a.parts.headD zeroS, true)
     else ((.mk 6 [] [(tg (l.inner.headD zeroL) (a.parts.headD zeroS)).1] : DSch), (tg (l.inner.headD zeroL) (a.parts.headD zeroS)).2))
  else (a, false)
noncomputable def targetS : Nat → DLens → DSch → DSch × Bool
  | 0, _, s => (s, false)
  | n + 1, l, s =>
    if s.kind = 5 ∧ rightS 5 s = true then
      (if l.kind ≤ 5 then ((besideS l s ((fieldS s l.a).getD zeroS) (fieldS s l.a).isSome).1, (besideS l s ((fieldS s l.a).getD zeroS) (fieldS s l.a).isSome).2 && rightS 5 (besideS l s ((fieldS s l.a).getD zeroS) (fieldS s l.a).isSome).1)
       else if (fieldS s l.a).isSome = true then (withS s l.a (withinS (targetS n) l ((fieldS s l.a).getD zeroS)).1, (withinS (targetS n) l ((fieldS s l.a).getD zeroS)).2 && rightS 5 (withS s l.a (withinS (targetS n) l ((fieldS s l.a).getD zeroS)).1))
       else (s, false))
    else (s, false)
def wB : Nat → Nat
  | 0 => 0
  | d + 1 => 9 + 8 * wB d
theorem weights_le {l : List DSch} {n : Nat} (h : ∀ p ∈ l, p.weight ≤ n) : DSch.weights l ≤ l.length * n := by
  induction l with
  | nil => simp [DSch.weights]
  | cons p l ih =>
    have h1 := h p (List.mem_cons_self ..)
    have h2 := ih fun q hq => h q (List.mem_cons_of_mem _ hq)
    simp only [DSch.weights, List.length_cons, Nat.add_mul]
    omega
theorem plainS_len {s : DSch} (h : plainS s = true) : s.words.length ≤ 8 ∧ s.parts.length ≤ 8 ∧ (s.kind = 6 → s.parts.length = 1) ∧ (s.kind = 5 → s.parts.length = s.words.length) := by
  unfold plainS at h
  split at h
  · rename_i hk
    simp only [Bool.and_eq_true, decide_eq_true_eq] at h
    exact ⟨by omega, by omega, fun e => by omega, fun e => by omega⟩
  split at h
  · simp only [namesB, Bool.and_eq_true, decide_eq_true_eq] at h
    exact ⟨h.2.1.1, by have := h.2.2.2; omega, fun e => by omega, fun e => by omega⟩
  split at h
  · simp only [namesB, Bool.and_eq_true, decide_eq_true_eq] at h
    exact ⟨h.1.1, by have := h.2.2; have := h.1.1; omega, fun e => by omega, fun _ => h.2.2⟩
  split at h
  · simp only [Bool.and_eq_true, decide_eq_true_eq] at h
    exact ⟨by omega, by omega, fun _ => h.2, fun e => by omega⟩
  · cases h
theorem rightS_wB : ∀ (d : Nat) (s : DSch), rightS d s = true → s.weight ≤ wB d
  | 0, s, h => by cases h
  | d + 1, s, h => by
    simp only [rightS, Bool.and_eq_true, List.all_eq_true] at h
    have h1 := plainS_len h.1
    have h2 := weights_le (n := wB d) fun p hp => rightS_wB d p (h.2 p hp)
    have h3 : s.parts.length * wB d ≤ 8 * wB d := Nat.mul_le_mul_right _ h1.2.1
    rw [s.weight_eq, wB]
    omega
theorem rightS_mono : ∀ {d : Nat} {s : DSch}, rightS d s = true → rightS (d + 1) s = true
  | 0, s, h => by cases h
  | d + 1, s, h => by
    rw [rightS] at h ⊢
    simp only [Bool.and_eq_true, List.all_eq_true] at h ⊢
    exact ⟨h.1, fun p hp => rightS_mono (h.2 p hp)⟩
theorem rightS_le {d e : Nat} {s : DSch} (h : rightS d s = true) (hl : d ≤ e) : rightS e s = true := by
  induction hl with
  | refl => exact h
  | step _ ih => exact rightS_mono ih
theorem wB_le5 {d : Nat} (h : d ≤ 5) : wB d ≤ 42129 := by
  have : d = 0 ∨ d = 1 ∨ d = 2 ∨ d = 3 ∨ d = 4 ∨ d = 5 := by omega
  rcases this with rfl | rfl | rfl | rfl | rfl | rfl <;> decide
theorem wB_le4 {d : Nat} (h : d ≤ 4) : wB d ≤ 5265 := by
  have : d = 0 ∨ d = 1 ∨ d = 2 ∨ d = 3 ∨ d = 4 := by omega
  rcases this with rfl | rfl | rfl | rfl | rfl <;> decide
theorem field_right {d : Nat} {s : DSch} {x : Str} (h : rightS (d + 1) s = true) (hf : (fieldS s x).isSome = true) : rightS d ((fieldS s x).getD zeroS) = true := by
  unfold fieldS at hf ⊢
  split at hf
  · rename_i hw
    rw [if_pos hw]
    rw [rightS] at h
    simp only [Bool.and_eq_true, List.all_eq_true] at h
    have h1 := ix_lt hw.2
    have h2 : ixN s.words x < s.parts.length := by
      have := hw.1
      simp only [wholeS, Bool.and_eq_true, decide_eq_true_eq] at this
      omega
    rw [Option.getD_some, getD_at h2]
    exact h.2 _ (List.getElem_mem h2)
  · cases hf
def tB (d : Nat) : Nat := 4 * wB d + 1000
theorem head_mem {l : DLens} (h : l.inner.length = 1) : l.inner.headD zeroL ∈ l.inner := by
  obtain ⟨x, hx⟩ := List.length_eq_one_iff.1 h
  rw [hx]; exact List.mem_singleton.2 rfl
theorem headS_mem {a : DSch} (h : a.parts.length = 1) : a.parts.headD zeroS ∈ a.parts := by
  obtain ⟨x, hx⟩ := List.length_eq_one_iff.1 h
  rw [hx]; exact List.mem_singleton.2 rfl
theorem list1_wt {x : DSch} {n : Nat} (h : Wt x n) (hs : n + 1 ≤ 1000000) : Wt (.mk 6 [] [x]) (n + 1) :=
  Wt.of (by simp [I64]; decide) (fun _ h => by cases h) (fun p hp => List.mem_singleton.1 hp ▸ h.1) (by simp only [DSch.weights, List.length_nil]; have := h.2; omega) hs
structure Lo (k n : Nat) (l : DLens) : Prop where
  room : roomL k l = true
  ok : okL l
  right : rightL n l = true
theorem Lo.typ {k n : Nat} {l : DLens} (h : Lo k n l) : Wt l.typ 300 := by
  cases k with
  | zero => exact absurd h.room (by simp [roomL])
  | succ k => exact ⟨((okL_eq l).1 h.ok).2.2.2.1, (smallS (roomL_of h.room).typ).1⟩
theorem Lo.inner {k n : Nat} {l : DLens} (h : Lo k (n + 1) l) (hk : uI l.kind = true) : ∃ k', Lo k' n (l.inner.headD zeroL) ∧ l.inner.length = 1 := by
  have hr := h.right
  simp only [rightL, hk, Bool.not_true, Bool.false_or, Bool.and_eq_true, decide_eq_true_eq, List.all_eq_true] at hr
  have hm := head_mem hr.2.1
  cases k with
  | zero => exact absurd h.room (by simp [roomL])
  | succ k => exact ⟨k, ⟨roomL_in h.room hm, okL_in h.ok hm, hr.2.2 _ hm⟩, hr.2.1⟩
theorem Lo.kind {k n : Nat} {l : DLens} (h : Lo k (n + 1) l) : 1 ≤ l.kind ∧ l.kind ≤ 10 := by
  have hr := h.right
  simp only [rightL, headL, uOk, Bool.and_eq_true, decide_eq_true_eq] at hr
  exact hr.1.1
theorem withinS_wt0 {n d k : Nat} {l : DLens} {a : DSch} (hl : Lo k (n + 1) l) (hk5 : 5 < l.kind) (hd : d + 1 ≤ 5) (ha : rightS d a = true) (hak : okS a) (ih : ∀ (d k : Nat) (l : DLens) (s : DSch), Lo k n l → d ≤ 5 → rightS d s = true → okS s → Wt (targetS n l s).1 (tB d)) : Wt (withinS (targetS n) l a).1 (tB d + 1) := by
  have h4 := wB_le4 (d := d) (by omega)
  have haw : Wt a (wB d) := ⟨hak, rightS_wB d a ha⟩
  have ht := hl.typ
  unfold withinS
  split
  · exact (list1_wt haw (by omega)).le (by unfold tB; omega)
  split
  · exact ht.le (by unfold tB; omega)
  split
  · rename_i hk
    obtain ⟨k', hi, _⟩ := hl.inner (by rw [uI, hk]; rfl)
    exact (ih d k' _ a hi (by omega) ha hak).le (by omega)
  split
  · rename_i h6
    cases d with
    | zero => cases ha
    | succ d =>
      have ha' := ha
      rw [rightS] at ha'
      simp only [Bool.and_eq_true, List.all_eq_true] at ha'
      have hm := headS_mem ((plainS_len ha'.1).2.2.1 h6)
      have hpo := ((okS_eq a).1 hak).2.2.2.2 _ hm
      have hpr := ha'.2 _ hm
      split
      · show Wt (a.parts.headD zeroS) _
        exact Wt.le (n := wB (d + 1)) ⟨hpo, by have := DSch.weight_part hm; have := haw.2; omega⟩ (by unfold tB; omega)
      · rename_i k6 k8 k9 k7 
        by_cases hk : uI l.kind = true
        · obtain ⟨k', hi, _⟩ := hl.inner hk
          exact (list1_wt (ih d k' _ _ hi (by omega) hpr hpo) (by unfold tB; rw [wB] at h4; omega)).le (by unfold tB; rw [wB]; omega)
        · exfalso
          have := hl.kind
          simp only [uI, Bool.or_eq_true, beq_iff_eq] at hk
          omega
  · exact haw.le (by unfold tB; omega)
theorem targetS_wt : ∀ (n : Nat) (d k : Nat) (l : DLens) (s : DSch), Lo k n l → d ≤ 5 → rightS d s = true → okS s → Wt (targetS n l s).1 (tB d) := by
  intro n
  induction n with
  | zero => intro d k l s hl; exact absurd hl.right (by simp [rightL])
  | succ n ih =>
    intro d k l s hl hd hr ho
    have hsw : Wt s (wB d) := ⟨ho, rightS_wB d s hr⟩
    have h5 := wB_le5 hd
    have hs0 : Wt s (tB d) := hsw.le (by unfold tB; omega)
    unfold targetS
    split
    · split
      · cases d with
        | zero => cases hr
        | succ d =>
          have h1 : 1 ≤ wB (d + 1) := by rw [wB]; omega
          exact (besideS_wt (m := wB (d + 1)) hl.ok hl.typ.2 hsw (field_wt l.a hsw h1) h1 h1 (by omega)).le (by unfold tB; omega)
      · split
        · rename_i hf
          cases d with
          | zero => cases hr
          | succ d =>
            have h4 := wB_le4 (d := d) (by omega)
            have ha := field_right hr hf
            have hak : okS ((fieldS s l.a).getD zeroS) := (field_wt l.a hsw (by rw [wB]; omega)).1
            generalize hA : (fieldS s l.a).getD zeroS = a at ha hak ⊢
            have haw : Wt a (wB d) := ⟨hak, rightS_wB d a ha⟩
            have ht := hl.typ
            have key := withinS_wt0 hl (by omega) hd ha hak ih
            exact (withS_wt hsw key (((okL_eq l).1 hl.ok).2.1) (by unfold tB; omega)).le (by unfold tB; rw [wB]; omega)
        · exact hs0
    · exact hs0
theorem withinS_wt {n d k : Nat} {l : DLens} {a : DSch} (hl : Lo k (n + 1) l) (hk5 : 5 < l.kind) (hd : d + 1 ≤ 5) (ha : rightS d a = true) (hak : okS a) : Wt (withinS (targetS n) l a).1 (tB d + 1) := withinS_wt0 hl hk5 hd ha hak (targetS_wt n)
section
set_option maxRecDepth 200000
set_option maxHeartbeats 8000000
theorem within1_at (a : DSch) (p : DVal × DVal) (k : Nat) (ha : okS a) (h1 : okV p.1) {S : St} (hk : S.ob k = some (.box 25 (encS a).cells)) :
    DAt Tryz.prog 112 [encPr p, .loc k 0] S (.v (.bool (!fitsTop p.1 a))) := by
  refine dat_of_dwpL mixed Tryz.func112 rfl (fun _ _ => by kernel_rfl) (rs := [.tmp 3]) rfl (by kernel_rfl) (by trivial) (fun hS => ?_)
  have hkn := hS.lt hk
  (simp (disch := first | decide | omega | (simp only [nx]; first | done | omega)) only [go_sem, encPr_eq p, hk]; (repeat with_reducible refine aI ?_))
  rw [aggV_fold]
  refine DCalls.of_pure (fitsTop_d p.1 a h1 ha) ?_
  (simp (disch := first | decide | omega | (simp only [nx]; first | done | omega)) only [go_sem]; (repeat with_reducible refine aI ?_))
  refine ⟨?_, (by (repeat' first | assumption | exact St.Sub.refl _ | exact RowOk.sub (by assumption) (by assumption) | refine St.Sub.trans ?_ (RowOk.sub (by assumption) (by assumption)) | refine St.Sub.add ?_ ?_ _ | refine St.Sub.set ?_ ?_ ?_ _ | refine St.Sub.keep ?_ ?_ | refine St.WF.leave ?_ _ | refine St.WF.add ?_ _ | refine St.WF.set ?_ ?_ _ | refine St.WF.grow ?_ _ _ _ | refine St.WF.keep ?_ ?_ | (first | omega | (simp only [RowOk.lo, nx]; first | done | omega))))⟩
  rfl
theorem within_d (n d k : Nat) (l : DLens) (a : DSch) (hl : Lo k (n + 1) l) (h6 : 6 ≤ l.kind) (hd : d ≤ 5) (ha : rightS d a = true) (hak : okS a)
    (ih : ∀ k' x d' s, Lo k' n x → d' ≤ d → rightS d' s = true → okS s → DPure Tryz.prog 55 [encL x, encS s] (tupBs (targetS n x s))) :
    DPure Tryz.prog 79 [encL l, encS a] (tupBs (withinS (targetS n) l a)) := by
  have ho := (okL_eq l).1 hl.ok
  have fin : ∀ {x : DSch} {y : D} {b c : Bool} {r : DSch × Bool}, r = (x, c) → b = c → y.frz = encS x → (D.tup [y, .v (.bool b)]).frz = tupBs r := fun h h2 h3 => by rw [h, h2]; simp only [D.frz, frzL, h3, tupBs]
  have fz1 : ∀ (o o2 : Own) (x : DSch), (D.agg [.v (.int .i64 6), .sl o [], .sl o2 [encS x]]).frz = encS (.mk 6 [] [x]) := fun o o2 x => by rw [encS_eq (.mk 6 [] [x])]; simp only [D.frz, frzL, frz_encS]; rfl
  refine dpure_of_dwp mixed Tryz.func79 rfl (fun _ _ => by kernel_rfl) (rs := [.cell 4 25, .tmp 5]) rfl (by kernel_rfl) (tupBs_cl _) (fun S hS => ?_)
  by_cases k6 : l.kind = 6
  · have b1 : (l.kind == 6) = true := by simp [k6]
    have hr : withinS (targetS n) l a = (.mk 6 [] [a], true) := by rw [withinS, if_pos k6]
    (simp (disch := first | decide | omega | (simp only [nx]; first | done | omega)) only [go_sem, encL_eq l, b1]; (repeat with_reducible refine aI ?_))
    refine ⟨?_, (by (repeat' first | assumption | exact St.Sub.refl _ | exact RowOk.sub (by assumption) (by assumption) | refine St.Sub.trans ?_ (RowOk.sub (by assumption) (by assumption)) | refine St.Sub.add ?_ ?_ _ | refine St.Sub.set ?_ ?_ ?_ _ | refine St.Sub.keep ?_ ?_ | refine St.WF.leave ?_ _ | refine St.WF.add ?_ _ | refine St.WF.set ?_ ?_ _ | refine St.WF.grow ?_ _ _ _ | refine St.WF.keep ?_ ?_ | (first | omega | (simp only [RowOk.lo, nx]; first | done | omega))))⟩
    exact fin hr rfl (fz1 _ _ _)
  have b1 : (l.kind == 6) = false := by simp [k6]
  by_cases k8 : l.kind = 8
  · have b2 : (l.kind == 8) = true := by simp [k8]
    have hr : withinS (targetS n) l a = (l.typ, scaS a && fitsTop l.back a && !(l.pairs.any fun p => !fitsTop p.1 a)) := by rw [withinS, if_neg k6, if_pos k8]
    (simp (disch := first | decide | omega | (simp only [nx]; first | done | omega)) only [go_sem, encL_eq l, b1, b2]; (repeat with_reducible refine aI ?_))
    refine DCalls.of_pure (scalarS_d a) ?_
    cases h1 : scaS a with
    | false =>
      (simp (disch := first | decide | omega | (simp only [nx]; first | done | omega)) only [go_sem, h1]; (repeat with_reducible refine aI ?_))
      rw [aggS_fold]
      refine ⟨?_, (by (repeat' first | assumption | exact St.Sub.refl _ | exact RowOk.sub (by assumption) (by assumption) | refine St.Sub.trans ?_ (RowOk.sub (by assumption) (by assumption)) | refine St.Sub.add ?_ ?_ _ | refine St.Sub.set ?_ ?_ ?_ _ | refine St.Sub.keep ?_ ?_ | refine St.WF.leave ?_ _ | refine St.WF.add ?_ _ | refine St.WF.set ?_ ?_ _ | refine St.WF.grow ?_ _ _ _ | refine St.WF.keep ?_ ?_ | (first | omega | (simp only [RowOk.lo, nx]; first | done | omega))))⟩
      exact fin hr (by rw [h1]; rfl) (frz_encS _)
    | true =>
      (simp (disch := first | decide | omega | (simp only [nx]; first | done | omega)) only [go_sem, h1]; (repeat with_reducible refine aI ?_))
      rw [aggV_fold]
      refine DCalls.of_pure (fitsTop_d l.back a ho.2.2.2.2.2.1 hak) ?_
      cases h2 : fitsTop l.back a with
      | false =>
        (simp (disch := first | decide | omega | (simp only [nx]; first | done | omega)) only [go_sem, h2]; (repeat with_reducible refine aI ?_))
        rw [aggS_fold]
        refine ⟨?_, (by (repeat' first | assumption | exact St.Sub.refl _ | exact RowOk.sub (by assumption) (by assumption) | refine St.Sub.trans ?_ (RowOk.sub (by assumption) (by assumption)) | refine St.Sub.add ?_ ?_ _ | refine St.Sub.set ?_ ?_ ?_ _ | refine St.Sub.keep ?_ ?_ | refine St.WF.leave ?_ _ | refine St.WF.add ?_ _ | refine St.WF.set ?_ ?_ _ | refine St.WF.grow ?_ _ _ _ | refine St.WF.keep ?_ ?_ | (first | omega | (simp only [RowOk.lo, nx]; first | done | omega))))⟩
        exact fin hr (by rw [h1, h2]; rfl) (frz_encS _)
      | true =>
        (simp (disch := first | decide | omega | (simp only [nx]; first | done | omega)) only [go_sem, h2]; (repeat with_reducible refine aI ?_))
        have hpl : l.pairs.length ≤ 1000000 := by
          cases k with
          | zero => exact absurd hl.room (by simp [roomL])
          | succ k => have := (roomL_of hl.room).pairs; omega
        refine go_at (anyPr_at (fun p => !fitsTop p.1 a) hpl fun x hx T hn hg => ?_) ?_
        · exact within1_at a x (S.next + 1) hak (ho.2.2.2.2.2.2.1 x hx).1 (hg _ _ (by (first | (simp (disch := first | decide | omega | (simp only [nx]; first | done | omega)) only [go_sem]; first | done | rfl) | rfl)))
        (simp (disch := first | decide | omega | (simp only [nx]; first | done | omega)) only [go_sem]; (repeat with_reducible refine aI ?_))
        rw [aggS_fold]
        refine ⟨?_, (by (repeat' first | assumption | exact St.Sub.refl _ | exact RowOk.sub (by assumption) (by assumption) | refine St.Sub.trans ?_ (RowOk.sub (by assumption) (by assumption)) | refine St.Sub.add ?_ ?_ _ | refine St.Sub.set ?_ ?_ ?_ _ | refine St.Sub.keep ?_ ?_ | refine St.WF.leave ?_ _ | refine St.WF.add ?_ _ | refine St.WF.set ?_ ?_ _ | refine St.WF.grow ?_ _ _ _ | refine St.WF.keep ?_ ?_ | (first | omega | (simp only [RowOk.lo, nx]; first | done | omega))))⟩
        exact fin hr (by rw [h1, h2]; rfl) (frz_encS _)
  have b2 : (l.kind == 8) = false := by simp [k8]
  by_cases k9 : l.kind = 9
  · have b3 : (l.kind == 9) = true := by simp [k9]
    obtain ⟨k', hi, hin⟩ := hl.inner (by rw [uI, b3]; rfl)
    obtain ⟨x, hx⟩ := List.length_eq_one_iff.1 hin
    have hr : withinS (targetS n) l a = targetS n x a := by rw [withinS, if_neg k6, if_neg k8, if_pos k9, hx]; rfl
    have hi' : Lo k' n x := by rw [hx] at hi; exact hi
    (simp (disch := first | decide | omega | (simp only [nx]; first | done | omega)) only [go_sem, encL_eq l, b1, b2, b3]; (repeat with_reducible refine aI ?_))
    refine ddraw_any (fun S' => S'.ob S.next = some (.box 47 (encL l).cells) ∧ S'.ob (S.next + 1) = some (.box 25 (encS a).cells)) 10 (by (first | (simp (disch := first | decide | omega | (simp only [nx]; first | done | omega)) only [go_sem, encL_eq l]; first | done | rfl) | rfl)) (by kernel_rfl) ?_
    (refine s_take 0 rfl (by kernel_rfl) (by kernel_rfl) (v := ?v1) (fun S' hz => dquietR_of ?h1) <| s_take 1 rfl (by kernel_rfl) (by kernel_rfl) (v := ?v2) (fun S' hz => dquietR_of ?h2) <| s_take 2 rfl (by kernel_rfl) (by kernel_rfl) (v := ?v3) (fun S' hz => dquietR_of ?h3) <| s_take 3 rfl (by kernel_rfl) (by kernel_rfl) (v := ?v4) (fun S' hz => dquietR_of ?h4) <| s_take 4 rfl (by kernel_rfl) (by kernel_rfl) (v := ?v5) (fun S' hz => dquietR_of ?h5) <| ?k5; (case h1 | h2 | h3 | h4 | h5 => ((simp (disch := first | decide | omega | (simp only [nx]; first | done | omega)) only [go_sem, hz.1, hz.2, encL_eq l, hx, List.map_cons, List.map_nil, List.length_singleton, hz]; (repeat with_reducible refine aI ?_)); first | done | exact rfl | omega)))
    (refine s_take 5 rfl (by kernel_rfl) (by kernel_rfl) (v := ?v6) (fun S' hz => dquietR_of ?h6) ?k6; (case h6 => ((simp (disch := first | decide | omega | (simp only [nx]; first | done | omega)) only [go_sem, hz]; (repeat with_reducible refine aI ?_)); refine dqgo_mk (ih k' x d a hi' (Nat.le_refl _) ha hak) ?_; exact rfl)))
    (refine s_take 6 rfl (by kernel_rfl) (by kernel_rfl) (v := ?v7) (fun S' hz => dquietR_of ?h7) <| s_take 7 rfl (by kernel_rfl) (by kernel_rfl) (v := ?v8) (fun S' hz => dquietR_of ?h8) <| ?k8; (case h7 | h8 => ((simp (disch := first | decide | omega | (simp only [nx]; first | done | omega)) only [go_sem, tupBs, hz]; (repeat with_reducible refine aI ?_)); first | done | exact rfl | omega)))
    (refine s_split [8] (by kernel_rfl) (by simp) ?_; intro j_ hj_; obtain rfl : j_ = 8 := (by simpa using hj_); clear hj_; refine s_op rfl ?_; (simp (disch := first | decide | omega | (simp only [nx]; first | done | omega)) only [go_sem]; (repeat with_reducible refine aI ?_)))
    refine ⟨by rw [encL_eq]; rfl, ?_⟩
    (refine s_take 9 rfl (by kernel_rfl) (by kernel_rfl) (v := ?v9) (fun S' hz => dquietR_of ?h9) ?k9; (case h9 => ((simp (disch := first | decide | omega | (simp only [nx]; first | done | omega)) only [go_sem, hz]; (repeat with_reducible refine aI ?_)); first | done | exact rfl | omega)))
    (refine s_done (by kernel_rfl) ?_; (simp (disch := first | decide | omega | (simp only [nx]; first | done | omega)) only [go_sem]; (repeat with_reducible refine aI ?_)))
    refine ⟨?_, (by (repeat' first | assumption | exact St.Sub.refl _ | exact RowOk.sub (by assumption) (by assumption) | refine St.Sub.trans ?_ (RowOk.sub (by assumption) (by assumption)) | refine St.Sub.add ?_ ?_ _ | refine St.Sub.set ?_ ?_ ?_ _ | refine St.Sub.keep ?_ ?_ | refine St.WF.leave ?_ _ | refine St.WF.add ?_ _ | refine St.WF.set ?_ ?_ _ | refine St.WF.grow ?_ _ _ _ | refine St.WF.keep ?_ ?_ | (first | omega | (simp only [RowOk.lo, nx]; first | done | omega))))⟩
    exact fin (hr.trans rfl) rfl (frz_encS _)
  have b3 : (l.kind == 9) = false := by simp [k9]
  by_cases a6 : a.kind = 6
  · have c1 : (a.kind != 6) = false := by simp [a6]
    have hap : a.parts.length = 1 := by
      cases d with
      | zero => cases ha
      | succ d =>
        have ha' := ha
        rw [rightS] at ha'
        simp only [Bool.and_eq_true] at ha'
        exact (plainS_len ha'.1).2.2.1 a6
    obtain ⟨y, hy⟩ := List.length_eq_one_iff.1 hap
    by_cases k7 : l.kind = 7
    · have b4 : (l.kind == 7) = true := by simp [k7]
      have hr : withinS (targetS n) l a = (y, true) := by rw [withinS, if_neg k6, if_neg k8, if_neg k9, if_pos a6, if_pos k7, hy]; rfl
      (simp (disch := first | decide | omega | (simp only [nx]; first | done | omega)) only [go_sem, encL_eq l, encS_eq a, b1, b2, b3, b4, c1, hy, List.map_cons, List.map_nil, List.length_singleton]; (repeat with_reducible refine aI ?_))
      refine ⟨?_, (by (repeat' first | assumption | exact St.Sub.refl _ | exact RowOk.sub (by assumption) (by assumption) | refine St.Sub.trans ?_ (RowOk.sub (by assumption) (by assumption)) | refine St.Sub.add ?_ ?_ _ | refine St.Sub.set ?_ ?_ ?_ _ | refine St.Sub.keep ?_ ?_ | refine St.WF.leave ?_ _ | refine St.WF.add ?_ _ | refine St.WF.set ?_ ?_ _ | refine St.WF.grow ?_ _ _ _ | refine St.WF.keep ?_ ?_ | (first | omega | (simp only [RowOk.lo, nx]; first | done | omega))))⟩
      exact fin hr rfl (frz_encS _)
    · have b4 : (l.kind == 7) = false := by simp [k7]
      have hu : uI l.kind = true := by
        have := hl.kind
        simp only [uI, Bool.or_eq_true, beq_iff_eq]
        omega
      obtain ⟨k', hi, hin⟩ := hl.inner hu
      obtain ⟨x, hx⟩ := List.length_eq_one_iff.1 hin
      have hi' : Lo k' n x := by rw [hx] at hi; exact hi
      have hr : withinS (targetS n) l a = ((.mk 6 [] [(targetS n x y).1] : DSch), (targetS n x y).2) := by rw [withinS, if_neg k6, if_neg k8, if_neg k9, if_pos a6, if_neg k7, hy, hx]; rfl
      cases d with
      | zero => cases ha
      | succ d =>
      have ha' := ha
      rw [rightS] at ha'
      simp only [Bool.and_eq_true, List.all_eq_true] at ha'
      have hym : y ∈ a.parts := by rw [hy]; exact List.mem_singleton.2 rfl
      have hc := ih k' x d y hi' (by omega) (ha'.2 _ hym) (((okS_eq a).1 hak).2.2.2.2 _ hym)
      (simp (disch := first | decide | omega | (simp only [nx]; first | done | omega)) only [go_sem, encL_eq l, encS_eq a, b1, b2, b3, b4, c1]; (repeat with_reducible refine aI ?_))
      refine ddraw_any (fun S' => S'.ob S.next = some (.box 47 (encL l).cells) ∧ S'.ob (S.next + 1) = some (.box 25 (encS a).cells)) 15 (by (first | (simp (disch := first | decide | omega | (simp only [nx]; first | done | omega)) only [go_sem, encL_eq l, encS_eq a]; first | done | rfl) | rfl)) (by kernel_rfl) ?_
      (refine s_take 0 rfl (by kernel_rfl) (by kernel_rfl) (v := ?v10) (fun S' hz => dquietR_of ?h10) <| s_take 1 rfl (by kernel_rfl) (by kernel_rfl) (v := ?v11) (fun S' hz => dquietR_of ?h11) <| s_take 2 rfl (by kernel_rfl) (by kernel_rfl) (v := ?v12) (fun S' hz => dquietR_of ?h12) <| s_take 3 rfl (by kernel_rfl) (by kernel_rfl) (v := ?v13) (fun S' hz => dquietR_of ?h13) <| s_take 4 rfl (by kernel_rfl) (by kernel_rfl) (v := ?v14) (fun S' hz => dquietR_of ?h14) <| s_take 5 rfl (by kernel_rfl) (by kernel_rfl) (v := ?v15) (fun S' hz => dquietR_of ?h15) <| s_take 6 rfl (by kernel_rfl) (by kernel_rfl) (v := ?v16) (fun S' hz => dquietR_of ?h16) <| s_take 7 rfl (by kernel_rfl) (by kernel_rfl) (v := ?v17) (fun S' hz => dquietR_of ?h17) <| ?k17; (case h10 | h11 | h12 | h13 | h14 | h15 | h16 | h17 => ((simp (disch := first | decide | omega | (simp only [nx]; first | done | omega)) only [go_sem, hz.1, hz.2, encL_eq l, encS_eq a, hx, hy, List.map_cons, List.map_nil, List.length_singleton, hz]; (repeat with_reducible refine aI ?_)); first | done | exact rfl | omega)))
      (refine s_take 8 rfl (by kernel_rfl) (by kernel_rfl) (v := ?v18) (fun S' hz => dquietR_of ?h18) ?k18; (case h18 => ((simp (disch := first | decide | omega | (simp only [nx]; first | done | omega)) only [go_sem, hz]; (repeat with_reducible refine aI ?_)); refine dqgo_mk (hc) ?_; exact rfl)))
      (refine s_take 9 rfl (by kernel_rfl) (by kernel_rfl) (v := ?v19) (fun S' hz => dquietR_of ?h19) <| s_take 10 rfl (by kernel_rfl) (by kernel_rfl) (v := ?v20) (fun S' hz => dquietR_of ?h20) <| s_take 11 rfl (by kernel_rfl) (by kernel_rfl) (v := ?v21) (fun S' hz => dquietR_of ?h21) <| ?k21; (case h19 | h20 | h21 => ((simp (disch := first | decide | omega | (simp only [nx]; first | done | omega)) only [go_sem, tupBs, hz]; (repeat with_reducible refine aI ?_)); first | done | exact rfl | omega)))
      (refine s_split [12] (by kernel_rfl) (by simp) ?_; intro j_ hj_; obtain rfl : j_ = 12 := (by simpa using hj_); clear hj_; refine s_op rfl ?_; (simp (disch := first | decide | omega | (simp only [nx]; first | done | omega)) only [go_sem]; (repeat with_reducible refine aI ?_)))
      refine ⟨⟨by rw [encL_eq]; (first | (simp (disch := first | decide | omega | (simp only [nx]; first | done | omega)) only [go_sem]; first | done | rfl) | rfl), by rw [encS_eq]; (first | (simp (disch := first | decide | omega | (simp only [nx]; first | done | omega)) only [go_sem]; first | done | rfl) | rfl)⟩, ?_⟩
      (refine s_split [13] (by kernel_rfl) (by simp) ?_; intro j_ hj_; obtain rfl : j_ = 13 := (by simpa using hj_); clear hj_; refine s_op rfl ?_; (simp (disch := first | decide | omega | (simp only [nx]; first | done | omega)) only [go_sem]; (repeat with_reducible refine aI ?_)))
      refine ⟨⟨by rw [encL_eq]; (first | (simp (disch := first | decide | omega | (simp only [nx]; first | done | omega)) only [go_sem]; first | done | rfl) | rfl), by rw [encS_eq]; (first | (simp (disch := first | decide | omega | (simp only [nx]; first | done | omega)) only [go_sem]; first | done | rfl) | rfl)⟩, ?_⟩
      (refine s_take 14 rfl (by kernel_rfl) (by kernel_rfl) (v := ?v22) (fun S' hz => dquietR_of ?h22) ?k22; (case h22 => ((simp (disch := first | decide | omega | (simp only [nx]; first | done | omega)) only [go_sem, hz]; (repeat with_reducible refine aI ?_)); first | done | exact rfl | omega)))
      (refine s_done (by kernel_rfl) ?_; (simp (disch := first | decide | omega | (simp only [nx]; first | done | omega)) only [go_sem]; (repeat with_reducible refine aI ?_)))
      refine ⟨?_, (by (repeat' first | assumption | exact St.Sub.refl _ | exact RowOk.sub (by assumption) (by assumption) | refine St.Sub.trans ?_ (RowOk.sub (by assumption) (by assumption)) | refine St.Sub.add ?_ ?_ _ | refine St.Sub.set ?_ ?_ ?_ _ | refine St.Sub.keep ?_ ?_ | refine St.WF.leave ?_ _ | refine St.WF.add ?_ _ | refine St.WF.set ?_ ?_ _ | refine St.WF.grow ?_ _ _ _ | refine St.WF.keep ?_ ?_ | (first | omega | (simp only [RowOk.lo, nx]; first | done | omega))))⟩
      exact fin hr rfl (fz1 _ _ _)
  · have c1 : (a.kind != 6) = true := by simp [a6]
    have hr : withinS (targetS n) l a = (a, false) := by rw [withinS, if_neg k6, if_neg k8, if_neg k9, if_neg a6]
    (simp (disch := first | decide | omega | (simp only [nx]; first | done | omega)) only [go_sem, encL_eq l, encS_eq a, b1, b2, b3, c1]; (repeat with_reducible refine aI ?_))
    rw [aggS_fold]
    refine ⟨?_, (by (repeat' first | assumption | exact St.Sub.refl _ | exact RowOk.sub (by assumption) (by assumption) | refine St.Sub.trans ?_ (RowOk.sub (by assumption) (by assumption)) | refine St.Sub.add ?_ ?_ _ | refine St.Sub.set ?_ ?_ ?_ _ | refine St.Sub.keep ?_ ?_ | refine St.WF.leave ?_ _ | refine St.WF.add ?_ _ | refine St.WF.set ?_ ?_ _ | refine St.WF.grow ?_ _ _ _ | refine St.WF.keep ?_ ?_ | (first | omega | (simp only [RowOk.lo, nx]; first | done | omega))))⟩
    exact fin hr rfl (frz_encS _)
end
end Go.Proofs.YtogbklnkpjjkoaaGreatDoor

namespace Go.Proofs.YtogbklnkpjjkoaaGreatDoor
structure DVer where
  name : H32
  up : Int
  lens : DLens
  sch : DSch
def upOf (vs : List DVer) (i : Nat) : Int := ((vs[i]?).map (·.up)).getD (-1)
def adjB (vs : List DVer) (i k : Nat) : Bool := decide (upOf vs i = (k : Int)) || decide (upOf vs k = (i : Int))
def besL (vs : List DVer) (i : Nat) : List Nat := (List.range vs.length).filter (adjB vs i)
structure WfR (vs : List DVer) : Prop where
  up : ∀ i, i < vs.length → (i = 0 → upOf vs i = -1) ∧ (0 < i → 0 ≤ upOf vs i ∧ upOf vs i < (i : Int))
  nodup : (vs.map (·.name)).Nodup
theorem upOf_lt {vs : List DVer} {i : Nat} (h : i < vs.length) : upOf vs i = vs[i].up := by simp [upOf, h]
theorem upOf_snoc {vs : List DVer} {v : DVer} {i : Nat} (h : i < vs.length) : upOf (vs ++ [v]) i = upOf vs i := by
  simp only [upOf, List.getElem?_append_left h]
theorem upOf_last {vs : List DVer} {v : DVer} : upOf (vs ++ [v]) vs.length = v.up := by
  rw [upOf_lt (by simp)]; simp
theorem besL_old {vs : List DVer} {v : DVer} {i : Nat} (hw : WfR vs) (h : i < vs.length) (hv : v.up < (vs.length : Int)) : besL (vs ++ [v]) i = besL vs i ++ (if v.up = (i : Int) then [vs.length] else []) := by
  have h1 : (List.range vs.length).filter (adjB (vs ++ [v]) i) = (List.range vs.length).filter (adjB vs i) := by
    refine List.filter_congr fun k hk => ?_
    have hk' : k < vs.length := by simpa using hk
    simp only [adjB, upOf_snoc h, upOf_snoc hk']
  have h2 : adjB (vs ++ [v]) i vs.length = decide (v.up = (i : Int)) := by
    simp only [adjB, upOf_snoc h, upOf_last]
    have : decide (upOf vs i = (vs.length : Int)) = false := by
      refine decide_eq_false fun e => ?_
      have := hw.up i h
      rcases Nat.eq_zero_or_pos i with h0 | h0
      · have := this.1 h0; omega
      · have := (this.2 h0).2; omega
    rw [this, Bool.false_or]
  simp only [besL, List.length_append, List.length_singleton, List.range_succ, List.filter_append, h1, List.filter_cons, List.filter_nil, h2]
  by_cases e : v.up = (i : Int) <;> simp [e]
theorem besL_new {vs : List DVer} {v : DVer} (hw : WfR vs) (h0 : 0 ≤ v.up) (hv : v.up < (vs.length : Int)) : besL (vs ++ [v]) vs.length = [v.up.toNat] := by
  have hk : v.up.toNat < vs.length := by omega
  have key : ∀ k, k < vs.length + 1 → (adjB (vs ++ [v]) vs.length k = decide (k = v.up.toNat)) := fun k hk2 => by
    simp only [adjB, upOf_last]
    have e2 : decide (upOf (vs ++ [v]) k = (vs.length : Int)) = false := by
      refine decide_eq_false fun e => ?_
      by_cases hk3 : k < vs.length
      · rw [upOf_snoc hk3] at e
        have := hw.up k hk3
        rcases Nat.eq_zero_or_pos k with h0 | h0
        · have := this.1 h0; omega
        · have := (this.2 h0).2; omega
      · obtain rfl : k = vs.length := by omega
        rw [upOf_last] at e
        omega
    rw [e2, Bool.or_false]
    congr 1
    exact propext ⟨fun h => by omega, fun h => by omega⟩
  have : besL (vs ++ [v]) vs.length = (List.range (vs.length + 1)).filter (fun k => decide (k = v.up.toNat)) := by
    simp only [besL, List.length_append, List.length_singleton]
    exact List.filter_congr fun k hk => key k (by simpa using hk)
  rw [this]
  have gen : ∀ n, v.up.toNat < n → (List.range n).filter (fun k => decide (k = v.up.toNat)) = [v.up.toNat] := fun n => by
    induction n with
    | zero => intro h; omega
    | succ n ih =>
      intro h
      rw [List.range_succ, List.filter_append]
      by_cases e : v.up.toNat < n
      · rw [ih e]
        simp
        omega
      · have e2 : v.up.toNat = n := by omega
        have : (List.range n).filter (fun k => decide (k = v.up.toNat)) = [] := by
          refine List.filter_eq_nil_iff.2 fun k hk => ?_
          have : k < n := by simpa using hk
          simp; omega
        rw [this]
        simp [e2]
  exact gen _ (by omega)
theorem besL_root {v : DVer} (hv : v.up = -1) : besL [v] 0 = [] := by
  simp [besL, List.range_succ, adjB, upOf, hv]
theorem besL_lt {vs : List DVer} {i k : Nat} (h : k ∈ besL vs i) : k < vs.length := by
  have := (List.mem_filter.1 h).1
  simpa using this
theorem besL_asc (vs : List DVer) (i : Nat) : (besL vs i).Pairwise (· < ·) := List.pairwise_lt_range.filter _
theorem besL_len (vs : List DVer) (i : Nat) : (besL vs i).length ≤ vs.length := by
  have := List.length_filter_le (adjB vs i) (List.range vs.length)
  rwa [List.length_range] at this
/-! The way out, breadth first. -/
abbrev Bf := List Nat × List (Nat × Nat)
def bfOne (at_ : Nat) (s : Bf) (k : Nat) : Bf := if k ∈ s.1 then s else (s.1 ++ [k], s.2 ++ [(at_, k)])
def bfs (vs : List DVer) (start : Nat) : Nat → Bf
  | 0 => ([start], [])
  | p + 1 => match (bfs vs start p).1[p]? with
    | some a => (besL vs a).foldl (bfOne a) (bfs vs start p)
    | none => bfs vs start p
theorem bfOne_ok {n a : Nat} {s : Bf} {k : Nat} (h1 : s.1.Nodup) (h2 : ∀ x ∈ s.1, x < n) (hk : k < n) : (bfOne a s k).1.Nodup ∧ ∀ x ∈ (bfOne a s k).1, x < n := by
  unfold bfOne
  by_cases h : k ∈ s.1
  · rw [if_pos h]; exact ⟨h1, h2⟩
  · rw [if_neg h]
    refine ⟨List.nodup_append.2 ⟨h1, by simp, fun x hx y hy e => ?_⟩, fun x hx => ?_⟩
    · obtain rfl := List.mem_singleton.1 hy
      subst e
      exact h hx
    · rcases List.mem_append.1 hx with hx | hx
      · exact h2 x hx
      · obtain rfl := List.mem_singleton.1 hx; exact hk
theorem bfFold_ok {n a : Nat} : ∀ {l : List Nat} {s : Bf}, s.1.Nodup → (∀ x ∈ s.1, x < n) → (∀ x ∈ l, x < n) → (l.foldl (bfOne a) s).1.Nodup ∧ ∀ x ∈ (l.foldl (bfOne a) s).1, x < n
  | [], s, h1, h2, _ => ⟨h1, h2⟩
  | k :: l, s, h1, h2, h3 => by
    have := bfOne_ok (a := a) h1 h2 (h3 k (by simp))
    exact bfFold_ok (l := l) this.1 this.2 fun x hx => h3 x (by simp [hx])
theorem bfs_ok (vs : List DVer) {start : Nat} (h : start < vs.length) : ∀ p, (bfs vs start p).1.Nodup ∧ ∀ x ∈ (bfs vs start p).1, x < vs.length
  | 0 => ⟨by simp [bfs], fun x hx => by obtain rfl := List.mem_singleton.1 hx; exact h⟩
  | p + 1 => by
    have ih := bfs_ok vs h p
    rw [bfs]
    split
    · exact bfFold_ok ih.1 ih.2 fun x hx => besL_lt hx
    · exact ih
theorem nodup_len {l : List Nat} {n : Nat} (h1 : l.Nodup) (h2 : ∀ x ∈ l, x < n) : l.length ≤ n := by
  induction n generalizing l with
  | zero =>
    cases l with
    | nil => simp
    | cons x l => have := h2 x (by simp); omega
  | succ n ih =>
    by_cases hn : n ∈ l
    · have e : (l.erase n).length = l.length - 1 := List.length_erase_of_mem hn
      have := ih (l := l.erase n) (h1.erase n) fun x hx => by
        have h3 := h2 x (List.mem_of_mem_erase hx)
        have h4 : x ≠ n := fun e => (List.Nodup.not_mem_erase h1) (e ▸ hx)
        omega
      omega
    · have := ih h1 fun x hx => by
        have h3 := h2 x hx
        have h4 : x ≠ n := fun e => hn (e ▸ hx)
        omega
      omega
theorem bfs_len (vs : List DVer) {start : Nat} (h : start < vs.length) (p : Nat) : (bfs vs start p).1.length ≤ vs.length := nodup_len (bfs_ok vs h p).1 (bfs_ok vs h p).2
theorem bfs_at {vs : List DVer} {start p : Nat} (h : p < (bfs vs start p).1.length) : bfs vs start (p + 1) = (besL vs ((bfs vs start p).1[p])).foldl (bfOne ((bfs vs start p).1[p])) (bfs vs start p) := by
  rw [bfs, List.getElem?_eq_getElem h]
theorem bfs_stop {vs : List DVer} {start p : Nat} (h : (bfs vs start p).1.length ≤ p) : ∀ q, p ≤ q → bfs vs start q = bfs vs start p := fun q hq => by
  induction q with
  | zero => obtain rfl : p = 0 := by omega
            rfl
  | succ q ih =>
    by_cases e : p = q + 1
    · rw [e]
    · have := ih (by omega)
      rw [bfs, this, List.getElem?_eq_none (by omega)]
theorem bfFold_len {a : Nat} : ∀ {l : List Nat} {s : Bf}, s.1.length ≤ (l.foldl (bfOne a) s).1.length
  | [], s => Nat.le_refl _
  | k :: l, s => by
    have h : s.1.length ≤ (bfOne a s k).1.length := by
      unfold bfOne
      split
      · exact Nat.le_refl _
      · simp
    exact Nat.le_trans h (bfFold_len (l := l))
theorem bfFold_len2 {a : Nat} : ∀ {l : List Nat} {s : Bf}, s.2.length + 1 = s.1.length → (l.foldl (bfOne a) s).2.length + 1 = (l.foldl (bfOne a) s).1.length
  | [], s, h => h
  | k :: l, s, h => by
    have h1 : (bfOne a s k).2.length + 1 = (bfOne a s k).1.length := by
      unfold bfOne
      split
      · exact h
      · simp only [List.length_append, List.length_singleton]; omega
    exact bfFold_len2 (l := l) h1
theorem bfs_len2 (vs : List DVer) (start : Nat) : ∀ p, (bfs vs start p).2.length + 1 = (bfs vs start p).1.length
  | 0 => rfl
  | p + 1 => by
    have ih := bfs_len2 vs start p
    rw [bfs]
    split
    · exact bfFold_len2 ih
    · exact ih
theorem bfs_mono (vs : List DVer) (start : Nat) {p q : Nat} (h : p ≤ q) : (bfs vs start p).1.length ≤ (bfs vs start q).1.length := by
  induction q with
  | zero => obtain rfl : p = 0 := by omega
            exact Nat.le_refl _
  | succ q ih =>
    by_cases e : p = q + 1
    · rw [e]; exact Nat.le_refl _
    · refine Nat.le_trans (ih (by omega)) ?_
      rw [bfs]
      split
      · exact bfFold_len
      · exact Nat.le_refl _
def bfR (vs : List DVer) (start : Nat) : Nat := (bfs vs start vs.length).1.length
theorem bfR_le {vs : List DVer} {start : Nat} (h : start < vs.length) : bfR vs start ≤ vs.length := bfs_len vs h _
theorem bfR_go {vs : List DVer} {start i : Nat} (h : start < vs.length) (hi : i < bfR vs start) : i < (bfs vs start i).1.length := by
  rcases Nat.lt_or_ge i (bfs vs start i).1.length with h1 | h1
  · exact h1
  · have := bfR_le h
    have h2 := bfs_stop h1 vs.length (by omega)
    unfold bfR at hi
    rw [h2] at hi
    omega
theorem bfR_end {vs : List DVer} {start : Nat} (h : start < vs.length) : (bfs vs start (bfR vs start)).1.length ≤ bfR vs start := bfs_mono vs start (bfR_le h)
def outW (vs : List DVer) (start : Nat) : List (Nat × Nat) := (bfs vs start vs.length).2
theorem bfs_fin {vs : List DVer} {start : Nat} (h : start < vs.length) : (bfs vs start (bfR vs start)).2 = outW vs start := by
  rw [outW, bfs_stop (bfR_end h) _ (bfR_le h)]
end Go.Proofs.YtogbklnkpjjkoaaGreatDoor

namespace Go.Proofs.YtogbklnkpjjkoaaGreatDoor
open Go.RowKit
def hV (h : H32) : Value := .agg (h.1.map bV).toArray
def mapL (m : List (H32 × Nat)) : List (Value × Value) := m.map fun p => (hV p.1, .int .i64 (p.2 : Int))
def mget (m : List (H32 × Nat)) (h : H32) : Option Nat := (m.find? fun p => decide (h = p.1)).map (·.2)
section
variable {P : Program} {base : Nat} {S : St} {η : Names} {w : World}
theorem mp_cell {b : Nat} {es : Array MapEntry} {c : Nat} (h : w.heap[b]? = some (.map es c)) (i : Nat) : w.cell? ⟨b, i, none⟩ = none := by
  unfold World.cell?
  rw [h]
theorem mp_put {b : Nat} {es es' : Array MapEntry} {c c' : Nat} (h : w.heap[b]? = some (.map es c)) (q i : Nat) : (w.putObj b (.map es' c')).cell? ⟨q, i, none⟩ = w.cell? ⟨q, i, none⟩ := by
  by_cases e : q = b
  · subst e
    rw [mp_cell h, mp_cell (World.putObj_heap_same (Array.getElem?_eq_some_iff.1 h).1)]
  · exact World.cell?_of_block (World.putObj_heap_other e)
theorem goes_map (h : Mem P base S η w) : Goes P base S η w (S.add (.mp w.heap.size [])) (η.add S.next (some w.heap.size)) (w.alloc (.map #[] 0)) := by
  have hd := h.dead S.next (Nat.le_refl _)
  have hold : ∀ k b, η k = some b → k ≠ S.next := fun k b hk e => by subst e; rw [hd] at hk; cases hk
  have K : Keep (fun _ => True) w η (Fix P S η) (w.alloc (.map #[] 0)) (η.add S.next (some w.heap.size)) (Fix P (S.add (.mp w.heap.size [])) (η.add S.next (some w.heap.size))) := by
    refine ⟨by simp, fun b i hb hx => ⟨fun k o' hk hk' => ?_, World.cell?_alloc_lt w _ _ hb⟩, fun k b _ hk => ?_, fun b c _ hx => ⟨c, by rw [Below.heap_alloc w _ b ((Array.getElem?_eq_some_iff.1 hx).1)]; exact hx, rfl⟩⟩
    · simp only [Names.add, St.add] at hk hk'
      by_cases e : k = S.next
      · rw [if_pos e] at hk; injection hk with hk; injection hk with hk; omega
      · rw [if_neg e] at hk hk'
        exact hx k o' hk hk'
    · simp only [Names.add]; rw [if_neg (hold k b hk)]; exact hk
  have hlt : ∀ k b, η k = some (some b) → (w.alloc (.map #[] 0)).heap[b]? = w.heap[b]? := fun k b hk => Below.heap_alloc w _ b (h.in_ k b hk).2
  refine ⟨⟨by simp; have := h.base_; omega, fun k hk => ?_, fun k hk => ?_, fun k t' cs hk => ?_, fun k k' b h1 h2 h3 h4 => ?_, fun k b hk => ?_, fun k t' cs b h1 h2 => ?_, fun k e n b h1 h2 => ?_, h.glob.below ((Below.refl _ _).alloc h.base_ _), fun k b l hk => ?_⟩, K, (Below.refl _ _).alloc h.base_ _, fun _ => Nat.le_refl _, Loops.alloc _ _⟩
  · have hk' : S.next + 1 ≤ k := hk
    simp only [Names.add]; rw [if_neg (by omega)]; exact h.dead k (by omega)
  · have hk' : S.next + 1 ≤ k := hk
    simp only [St.add]; rw [if_neg (by omega)]; exact h.fresh k (by omega)
  · simp only [Names.add]
    by_cases e : k = S.next
    · exact ⟨_, if_pos e⟩
    · simp only [St.add] at hk
      rw [if_neg e] at hk ⊢
      exact h.live k t' cs hk
  · simp only [Names.add, St.add] at h1 h2 h3 h4
    by_cases e : k = S.next <;> by_cases e' : k' = S.next
    · omega
    · rw [if_pos e] at h1; rw [if_neg e'] at h2
      injection h1 with h1
      injection h1 with h1
      have := (h.in_ k' b h2).2
      omega
    · rw [if_neg e] at h1; rw [if_pos e'] at h2
      injection h2 with h2
      injection h2 with h2
      have := (h.in_ k b h1).2
      omega
    · rw [if_neg e] at h1 h3; rw [if_neg e'] at h2 h4
      exact h.inj k k' b h1 h2 h3 h4
  · simp only [Names.add] at hk
    by_cases e : k = S.next
    · rw [if_pos e] at hk; injection hk with hk; injection hk with hk; subst hk; exact ⟨h.base_, by simp⟩
    · rw [if_neg e] at hk
      exact ⟨(h.in_ k b hk).1, by simp; have := (h.in_ k b hk).2; omega⟩
  · simp only [Names.add, St.add] at h1 h2
    by_cases e : k = S.next
    · rw [if_pos e] at h1; cases h1
    · rw [if_neg e] at h1 h2
      obtain ⟨vs, k1, k2, k3⟩ := h.box k t' cs b h1 h2
      exact ⟨vs, (hlt k b h2).trans k1, RepL.keep K (allL_true _) k2, k3⟩
  · simp only [Names.add, St.add] at h1 h2
    by_cases e' : k = S.next
    · rw [if_pos e'] at h1; cases h1
    · rw [if_neg e'] at h1 h2
      obtain ⟨c, k1, k2⟩ := h.row k e n b h1 h2
      exact ⟨c, (hlt k b h2).trans k1, k2⟩
  · simp only [Names.add, St.add] at hk ⊢
    by_cases e' : k = S.next
    · rw [if_pos e'] at hk ⊢
      injection hk with hk
      injection hk with hk1 hk2
      subst hk1 hk2
      exact ⟨rfl, #[], 0, heap_alloc_new w _, rfl⟩
    · rw [if_neg e'] at hk ⊢
      obtain ⟨k1, es, c, k2, k3⟩ := h.mp k b l hk
      exact ⟨k1, es, c, (hlt k b k1).trans k2, k3⟩
theorem goes_mput (h : Mem P base S η w) {k b c c' : Nat} {l l' : List (Value × Value)} {es es' : Array MapEntry} (hk : S.ob k = some (.mp b l)) (he : w.heap[b]? = some (.map es c)) (hl : es'.toList.map (fun e => (e.key, e.val)) = l') :
    Goes P base S η w (S.set k (.mp b l')) η (w.putObj b (.map es' c')) := by
  obtain ⟨hb, _⟩ := h.mp k b l hk
  have hlive : (S.ob k).isSome = true := by rw [hk]; rfl
  have oth : ∀ q, q ≠ b → (w.putObj b (.map es' c')).heap[q]? = w.heap[q]? := fun q hq => World.putObj_heap_other hq
  have cel : ∀ {q : Nat} {cur : Array Value} {e : TypeId} {fr : Nat × Nat}, w.heap[q]? = some (.cells cur e fr) → (w.putObj b (.map es' c')).heap[q]? = some (.cells cur e fr) := fun {q} {cur} {e} {fr} hq => (oth q (fun e' => by subst e'; rw [he] at hq; cases hq)).trans hq
  have K : Keep (fun _ => True) w η (Fix P S η) (w.putObj b (.map es' c')) η (Fix P (S.set k (.mp b l')) η) := by
    refine ⟨by simp, fun q i hq hx => ⟨fun j o hj hj' => ?_, mp_put he q i⟩, fun _ _ _ hx => hx, fun q c e hx => ⟨c, cel hx, rfl⟩⟩
    simp only [St.set] at hj'
    by_cases e : j = k
    · subst e
      rw [hj] at hb
      injection hb with hb
      injection hb with hb
      subst hb
      exact (hx j _ hj hk).elim
    · rw [if_neg e] at hj'; exact hx j o hj hj'
  have B : Below base w (w.putObj b (.map es' c')) := ⟨rfl, rfl, rfl, by simp, fun q hq => oth q (by have := (h.in_ k b hb).1; omega)⟩
  refine ⟨⟨by simpa using h.base_, h.dead, fun j hj => ?_, fun j t' c' hj => ?_, fun j j' q h1 h2 h3 h4 => ?_, fun j q hj => by simpa using h.in_ j q hj, fun j t' c' q hj hj' => ?_, fun j e n q hj hj' => ?_, h.glob.below B, fun j q m hj => ?_⟩, K, B, fun _ => Nat.le_refl _, fun q o hq ho => ?_⟩
  · have hj' : S.next ≤ j := hj
    have : j ≠ k := fun e => by subst e; rw [h.fresh j hj'] at hk; cases hk
    simp only [St.set]; rw [if_neg this]; exact h.fresh j hj'
  · simp only [St.set] at hj
    by_cases e : j = k
    · rw [if_pos e] at hj; cases hj
    · rw [if_neg e] at hj; exact h.live j t' c' hj
  · have live : ∀ i, ((S.set k (.mp b l')).ob i).isSome = true → (S.ob i).isSome = true := fun i hi => by
      simp only [St.set] at hi
      by_cases e : i = k
      · subst e; exact hlive
      · rwa [if_neg e] at hi
    exact h.inj j j' q h1 h2 (live j h3) (live j' h4)
  · simp only [St.set] at hj
    by_cases e : j = k
    · rw [if_pos e] at hj; cases hj
    · rw [if_neg e] at hj
      obtain ⟨us, k1, k2, k3⟩ := h.box j t' c' q hj hj'
      exact ⟨us, cel k1, RepL.keep K (allL_true _) k2, k3⟩
  · simp only [St.set] at hj
    by_cases e' : j = k
    · rw [if_pos e'] at hj; cases hj
    · rw [if_neg e'] at hj
      obtain ⟨c, k1, k2⟩ := h.row j e n q hj hj'
      exact ⟨c, cel k1, k2⟩
  · simp only [St.set] at hj
    by_cases e' : j = k
    · rw [if_pos e'] at hj
      injection hj with hj
      injection hj with hj1 hj2
      subst hj1 hj2 e'
      exact ⟨hb, es', c', World.putObj_heap_same (Array.getElem?_eq_some_iff.1 he).1, hl⟩
    · rw [if_neg e'] at hj
      obtain ⟨k1, es2, c2, k2, k3⟩ := h.mp j q m hj
      have hne : q ≠ b := fun e'' => by subst e''; exact e' (h.inj j k q k1 hb (by rw [hj]; rfl) hlive)
      exact ⟨k1, es2, c2, (oth q hne).trans k2, k3⟩
  · have hne : q ≠ b := fun e => by subst e; rw [he] at hq; injection hq with hq; subst hq; cases ho
    exact (oth q hne).trans hq
end
section
variable {S : St}
theorem part_byte (l : List UInt8) (w : World) (j : Nat) (hj : j < l.length) : (part 5 (l.map bV).toArray (j * 1)).run Tryz.prog w = .ok (bV l[j]) w := by
  have h : (isAgg 5).run Tryz.prog w = .ok false w := by kernel_rfl
  simp [part, Sem.run_bind, h, hj]
theorem check_byte (em : Bool) (d : Nat) (b : UInt8) (w : World) : (Instr.checkKey em (d + 1) 5 (bV b)).run Tryz.prog w = .ok () w := by
  rw [Instr.checkKey]
  simp only [Sem.run_bind, run_underlying Tryz.underlying5, Result.andThen_ok, bV]
  rfl
theorem check_hash (em : Bool) (h : H32) (w : World) : (Instr.checkKey em 10000 39 (hV h)).run Tryz.prog w = .ok () w := by
  rw [show 10000 = 9999 + 1 from rfl, Instr.checkKey]
  have hz : (Go.sizeOf 5).run Tryz.prog w = .ok 1 w := by kernel_rfl
  simp only [Sem.run_bind, run_underlying Tryz.underlying39, Result.andThen_ok, hV]
  simp only [Std.Legacy.Range.forIn_eq_forIn_range', Std.Legacy.Range.size, Nat.sub_zero, Nat.add_one_sub_one, Nat.div_one]
  have each : ∀ j ∈ List.range' 0 32, j < h.1.length := fun j hj => by
    have := List.mem_range'.1 hj
    rw [h.2]; omega
  generalize List.range' 0 32 = is at each
  induction is with
  | nil => simp
  | cons j is ih =>
    have p1 := part_byte h.1 w j (each j (by simp))
    have p2 := check_byte em 9998 (h.1[j]'(each j (by simp))) w
    rw [show 9998 + 1 = 9999 from rfl] at p2
    simp only [List.forIn_cons, Sem.run_bind, hz, Result.andThen_ok, p1, p2, Sem.run_pure]
    exact ih fun y hy => each y (by simp [hy])
theorem find_hash (w : World) (h : H32) : ∀ (es : List MapEntry) (m : List (H32 × Nat)) (i : Nat), es.map (fun e => (e.key, e.val)) = mapL m → ∃ r : Option (Nat × Value), (Instr.findAsking 39 (hV h) es i).run Tryz.prog w = .ok r w ∧ r.map (·.2) = (mget m h).map fun n : Nat => Value.int .i64 (n : Int)
  | [], [], i, _ => ⟨none, rfl, rfl⟩
  | [], _ :: _, i, e => by cases e
  | _ :: _, [], i, e => by cases e
  | e :: es, p :: m, i, he => by
    simp only [List.map_cons, mapL, List.cons.injEq, Prod.mk.injEq] at he
    obtain ⟨⟨h1, h2⟩, h3⟩ := he
    have hq : (Op.equal 39 (hV h) e.key).run Tryz.prog w = .ok (decide (h = p.1)) w := by
      rw [h1]; exact equalIn_hash 9998 h p.1 w
    rw [Instr.findAsking]
    simp only [Sem.run_bind, hq, Result.andThen_ok, Sem.run_ite]
    by_cases hp : h = p.1
    · refine ⟨some (i, e.val), by simp [hp, Sem.run_pure], ?_⟩
      simp [mget, hp, h2]
    · obtain ⟨r, r1, r2⟩ := find_hash w h es m (i + 1) h3
      refine ⟨r, by simp [hp, r1], ?_⟩
      rw [r2]
      simp [mget, hp]
theorem findKey_hash (w : World) (h : H32) (es : List MapEntry) (m : List (H32 × Nat)) (he : es.map (fun e => (e.key, e.val)) = mapL m) : ∃ r : Option (Nat × Value), (Instr.findKey 39 (hV h) es).run Tryz.prog w = .ok r w ∧ r.map (·.2) = (mget m h).map fun n : Nat => Value.int .i64 (n : Int) := by
  cases es with
  | nil =>
    obtain rfl : m = [] := by cases m with | nil => rfl | cons _ _ => cases he
    exact ⟨none, by simp [Instr.findKey, run_underlying Tryz.underlying39, Instr.findNow, Sem.run_bind, Sem.run_pure], rfl⟩
  | cons e es =>
    obtain ⟨r, r1, r2⟩ := find_hash w h (e :: es) m 0 he
    refine ⟨r, ?_, r2⟩
    simp only [Instr.findKey, Sem.run_bind, run_underlying Tryz.underlying39, Result.andThen_ok, Instr.findNow]
    have : Instr.sameNow (.array 32 5) (hV h) e.key = none := by
      unfold Instr.sameNow; split <;> simp_all
    rw [this]
    exact r1
theorem repL_hash {P : Program} {w : World} {η : Names} {X : Nat → Nat → Prop} {h : H32} {v : Value} (hr : Rep P w η X (encH h) v) : v = hV h := by
  simp only [encH, Rep] at hr
  obtain ⟨us, rfl, h1, _⟩ := hr
  rw [vals_rep (vals_bytes h.1) h1]
  rfl
def dmput (P : Program) (t : TypeId) (m k x : D) (S : St) (K : D → St → Prop) : Prop := DRun P (fun vs => do Instr.mapUpdate t (vs.getD 0 undef) (vs.getD 1 undef) (vs.getD 2 undef); pure undef) [m, k, x] S fun d S' => d = undefD ∧ K d S'
theorem dop_mapUpdate {P : Program} {f : Fm} {ty : TypeId} {K : D → St → Prop} (t : TypeId) (m k x : Operand) : dop P f S ty (.mapUpdate t m k x) K = dmput P t (ev f m) (ev f k) (ev f x) S K := Eq.trans (Eq.refl _) (Eq.refl _)
def dmmake (P : Program) (t : TypeId) (S : St) (K : D → St → Prop) : Prop := DRun P (fun vs => Instr.makeMap t vs.head?) [] S K
theorem dop_makeMap {P : Program} {f : Fm} {ty : TypeId} {K : D → St → Prop} (t : TypeId) : dop P f S ty (.makeMap t none) K = dmmake P t S K := Eq.trans (Eq.refl _) (Eq.refl _)
attribute [go_sem] dop_mapUpdate dop_makeMap
theorem dlook_hash {k b : Nat} {m : List (H32 × Nat)} (hk : S.ob k = some (.mp b (mapL m))) (h : H32) {K : D → St → Prop} (hK : K (.tup [.v (.int .i64 (((mget m h).getD 0 : Nat) : Int)), .v (.bool (mget m h).isSome)]) S) : dlookup Tryz.prog 93 (.v (.map (some b))) (encH h) true S K := by
  intro base η w vs hM hr
  simp only [RepL] at hr
  obtain ⟨x1, _, rfl, r1, x2, _, rfl, r2, rfl⟩ := hr
  simp only [Rep] at r1
  subst r1
  obtain rfl := repL_hash r2
  obtain ⟨hb, es, c, he, hl⟩ := hM.mp k b _ hk
  obtain ⟨r, f1, f2⟩ := findKey_hash w h es.toList m hl
  have hz : (zeroValue 3).run Tryz.prog w = .ok (.int .i64 0) w := by kernel_rfl
  refine ⟨_, S, η, .tuple #[.int .i64 (((mget m h).getD 0 : Nat) : Int), .bool (mget m h).isSome], w, ?_, hK, ?_, Goes.refl hM⟩
  · simp only [List.getD_cons_zero, List.getD_cons_succ, Instr.lookup, Sem.run_bind, run_underlying Tryz.underlying93, Result.andThen_ok, MapKept.run_getObj_map he, Sem.run_pure, check_hash, f1]
    cases r with
    | none =>
      cases hg : mget m h with
      | none => simp [Sem.run_bind, hz, Sem.run_pure]
      | some n => rw [hg] at f2; cases f2
    | some p =>
      cases hg : mget m h with
      | none => rw [hg] at f2; cases f2
      | some n =>
        rw [hg] at f2
        simp only [Option.map_some, Option.some.injEq] at f2
        simp [Sem.run_bind, Sem.run_pure, f2]
  · simp only [Rep, RepL]
    exact ⟨_, rfl, _, _, rfl, rfl, _, _, rfl, rfl, rfl⟩
theorem dput_hash {k b : Nat} {m : List (H32 × Nat)} (hk : S.ob k = some (.mp b (mapL m))) (h : H32) (n : Nat) (hn : mget m h = none) {K : D → St → Prop} (hK : K undefD (S.set k (.mp b (mapL (m ++ [(h, n)]))))) : dmput Tryz.prog 93 (.v (.map (some b))) (encH h) (.v (.int .i64 (n : Int))) S K := by
  intro base η w vs hM hr
  simp only [RepL] at hr
  obtain ⟨x1, _, rfl, r1, x2, _, rfl, r2, x3, _, rfl, r3, rfl⟩ := hr
  simp only [Rep] at r1 r3
  subst r1 r3
  obtain rfl := repL_hash r2
  obtain ⟨hb, es, c, he, hl⟩ := hM.mp k b _ hk
  obtain ⟨r, f1, f2⟩ := findKey_hash w h es.toList m hl
  have hr0 : r = none := by rw [hn] at f2; cases r with | none => rfl | some _ => cases f2
  subst hr0
  have G := goes_mput (l' := mapL (m ++ [(h, n)])) (es' := es.push { key := hV h, val := .int .i64 (n : Int), born := c }) (c' := c + 1) hM hk he (by simp [hl, mapL])
  refine ⟨undefD, _, η, undef, _, ?_, ⟨rfl, hK⟩, ?_, G⟩
  · simp only [List.getD_cons_zero, List.getD_cons_succ, Instr.mapUpdate, Sem.run_bind, run_underlying Tryz.underlying93, Result.andThen_ok, MapKept.run_getObj_map he, Sem.run_pure, check_hash, f1, MapKept.run_setObj_map _ he]
    rfl
  · simp only [Rep, RepL]; exact ⟨[], rfl, rfl⟩
theorem dmake_map {K : D → St → Prop} (hK : ∀ b, K (.v (.map (some b))) (S.add (.mp b (mapL [])))) : dmmake Tryz.prog 93 S K := by
  intro base η w vs hM hr
  simp only [RepL] at hr
  subst hr
  exact ⟨_, _, _, .map (some w.heap.size), _, rfl, hK w.heap.size, by simp only [Rep], goes_map hM⟩
end
end Go.Proofs.YtogbklnkpjjkoaaGreatDoor

namespace Go.Proofs.YtogbklnkpjjkoaaGreatDoor
open Go.RowKit

/-! ### What is shown of code stands in a round's frame too -/
def noDefer (o : Oper) : Bool := match o.op with
  | .defer _ => false
  | _ => true
theorem noDefer_spec {o : Oper} (h : noDefer o = true) : ∀ c, o.op ≠ .defer c := fun c e => by rw [noDefer, e] at h; cases h
def plainC : Code → Bool
  | .region _ ops _ => ops.all noDefer
  | .seq x y => plainC x && plainC y
  | .cond _ x y => plainC x && plainC y
  | .block _ c => plainC c
  | .skip => true
  | .label _ => true
  | .exit _ => true
  | _ => false
section
variable {P : Program} {l n : Nat} {Q : Exit → Act → World → Prop} {ops : Array Oper} {md : Region.Mode}
theorem rowsIn_wide {row : String} {args : Array Value} {w : World} {R : Value → World → Prop} (h : Rows P row args w R) : RowsIn (Fence.wide.inRound l) n P row args w R :=
  fun c cs _ => let ⟨v, w', r, s⟩ := h c cs; ⟨v, w', r, stepsIn_wide.2 s⟩
theorem callsIn_round {f : FuncId} {args : Array Value} {w : World} {R : Ending → World → Prop} (h : Calls P f args w R) : CallsIn (Fence.wide.inRound l) n P f args w R := (callsIn_wide (n := n)).2 h
theorem uponIn_of {o : Oper} {a : Act} {next : Act → World → Prop} {r : Result Next} (h : o.upon P a next Q r) : o.uponIn (Fence.wide.inRound l) n P a next Q r := by
  cases r with
  | ok x w' =>
    cases x <;> simp only [Oper.upon, Oper.uponIn] at h ⊢ <;>
      first
        | exact h
        | exact ⟨(fun e => by cases e), callsIn_round (h.mono fun e w'' he => by cases e <;> exact he)⟩
        | exact ⟨(fun e => by cases e), rowsIn_wide h⟩
  | halt x w' => cases x <;> simp only [Oper.upon, Oper.uponIn] at h ⊢ <;> exact h
theorem opIn_of {o : Oper} {a : Act} {w : World} {next : Act → World → Prop} (hd : noDefer o = true) (hQ : ¬ LetsOut Q) (h : o.wp P a w next Q ∨ (o.asks P a w ∧ LetsOut Q)) : o.wpIn (Fence.wide.inRound l) n P a w next Q := by
  rcases h with h | h
  · refine ⟨fun _ _ => trivial, ?_⟩
    rw [Oper.semAt_eq _ _ _ (noDefer_spec hd)]
    exact uponIn_of h
  · exact absurd h.2 hQ
theorem anyIn_of (hd : ∀ (j : Nat) (o : Oper), ops[j]? = some o → noDefer o = true) (hQ : ¬ LetsOut Q) : ∀ (fuel : Nat) (L : Array Bool) (a : Act) (w : World), wpAny P md ops Q fuel L a w → wpAnyIn (Fence.wide.inRound l) n P md ops Q fuel L a w
  | 0, _, _, _, h => h
  | fuel + 1, L, a, w, h => by
    refine ⟨h.1, fun i hi => ?_⟩
    have h2 := h.2 i hi
    have ih := fun a w => anyIn_of hd hQ fuel (L.setIfInBounds i true) a w
    unfold wpOp at h2
    unfold wpOpIn
    cases ho : ops[i]? with
    | none => rw [ho] at h2; exact ih _ _ h2
    | some o =>
      rw [ho] at h2
      simp only at h2 ⊢
      split
      · rename_i hw
        rw [if_pos hw] at h2
        exact opIn_of (hd i o ho) hQ (h2.imp (Oper.wp_mono ih) id)
      · rename_i hw
        rw [if_neg hw] at h2
        exact ⟨fun _ _ => trivial, ih _ _ h2⟩
theorem listIn_of (hQ : ¬ LetsOut Q) : ∀ (r : List Oper) (a : Act) (w : World), (∀ o ∈ r, noDefer o = true) → wpList P ops Q r a w → wpListIn (Fence.wide.inRound l) n P ops Q r a w
  | [], _, _, _, h => h
  | o :: r, a, w, hd, h => by
    have ih := fun a w => listIn_of hQ r a w fun o ho => hd o (List.mem_cons_of_mem _ ho)
    unfold wpList at h
    unfold wpListIn
    split
    · rename_i hw
      rw [if_pos hw] at h
      exact opIn_of (hd o (List.mem_cons_self ..)) hQ (h.imp (Oper.wp_mono ih) id)
    · rename_i hw
      rw [if_neg hw] at h
      exact ⟨fun _ _ => trivial, ih _ _ h⟩
theorem any_whole {l : List Oper} (n : Nat) {Q : Exit → Act → World → Prop} {a : Act} {w : World} (hB : heldTailB l n = true)
    (h : wpAny P .any (l.take n).toArray (Exit.then (fun a w => wpList P l.toArray Q (l.drop n) a w) Q) (l.take n).toArray.size (Array.replicate (l.take n).toArray.size false) a w) : wpAny P .any l.toArray Q l.toArray.size (Array.replicate l.toArray.size false) a w := by
  simp only [heldTailB, Bool.and_eq_true, decide_eq_true_eq] at hB
  obtain ⟨⟨⟨⟨hn, hs⟩, hc⟩, hb⟩, hq⟩ := hB
  have htl : (l.take n).toArray.size = n := by simp; omega
  rw [htl] at h
  have e : Array.replicate l.toArray.size false = Array.replicate n false ++ Array.replicate (l.length - n) false := by
    rw [Array.replicate_append_replicate]; congr 1; simp; omega
  have inv0 : HeadInv .any l.toArray n (Array.replicate n false ++ Array.replicate (l.length - n) false) := by
    rw [← e]
    exact ⟨by simp, fun j oj _ hl => (by rw [getD_replicate_false] at hl; cases hl), fun t _ ht => getD_in (by simpa using ht) (getD_replicate_false _ _)⟩
  have := wpAny_tail hn hs hc hb hq n (Array.replicate n false) a w inv0 (by simp) h
  rw [e]
  rw [show n + (l.length - n) = l.toArray.size by simp; omega] at this
  exact this
end
section
variable {P : Program} {base : Nat} {S : St} {η : Names} {w : World} {f : Fm} {a : Act}
theorem ddraw_any_sound {l : List Oper} {Q : Fm → St → Prop} {Q' : Exit → Act → World → Prop} (hok : ∀ o ∈ l, operOk a.tmps.size l.toArray o = true) (hM : Mem P base S η w) (hf : RepF P w η (Fix P S η) f a) (h : ddraw P l Q f S)
    (hq : ∀ f' S' η' w' a', Q f' S' → Goes P base S η w S' η' w' → RepF P w' η' (Fix P S' η') f' a' → a'.tmps.size = a.tmps.size → a'.defers = a.defers → Q' .normal a' w') : wpAny P .any l.toArray Q' l.toArray.size (Array.replicate l.toArray.size false) a w.drew := by
  have hokn : ∀ n, ∀ (j : Nat) (o : Oper), (l.take n).toArray[j]? = some o → operOk a.tmps.size (l.take n).toArray o = true := fun n j o ho => operOk_take (hok o (by
    have := List.mem_of_getElem? (show (l.take n)[j]? = some o by simpa using ho)
    exact List.mem_of_mem_take this))
  have G0 := goes_drew hM
  rcases h with ⟨n, hn, hh⟩ | ⟨Zs, n, hZ, hn, hh⟩
  rotate_left
  · simp only [Bool.or_eq_true, beq_iff_eq] at hn
    rcases hn with hn | hn
    · have hl : l.take n = l := by rw [hn, List.take_length]
      have hd : l.drop n = [] := by rw [hn, List.drop_length]
      have hokl := hokn n
      rw [hl] at hh hokl
      refine sAny_sound (w := w.drew) hokl l.toArray.size _ hZ G0.mem (G0.repF hf) rfl hh fun f' S' η' w' a' g1 g2 g3 g4 g5 => ?_
      rw [hd] at g1
      exact hq f' S' η' w' a' g1 (G0.trans g2) g3 g4 g5
    · refine any_whole n hn ?_
      have := sAny_sound (Q' := Exit.then (fun a w => wpList P l.toArray Q' (l.drop n) a w) Q') (hokn n) (l.take n).toArray.size (Array.replicate (l.take n).toArray.size false) hZ G0.mem (G0.repF hf) rfl hh fun f' S1 η' w' a' g1 g2 g3 g4 g5 => by
        refine dops_sound (l.drop n) (fun o ho => by rw [g4]; exact hok o (List.mem_of_mem_drop ho)) g2.mem g3 g1 fun f'' S'' η'' w'' a'' k1 k2 k3 k4 k5 => ?_
        exact hq f'' S'' η'' w'' a'' k1 ((G0.trans g2).trans k2) k3 (by rw [k4, g4]) (by rw [k5, g5])
      exact this
  simp only [drawOk, Bool.and_eq_true, Bool.or_eq_true, beq_iff_eq] at hn
  obtain ⟨hlex, hn⟩ := hn
  simp only [Region.lexB, Bool.and_eq_true] at hlex
  have hany := hAny_lex (l.take n) 0 (Array.replicate (l.take n).toArray.size false) f none (by simp) (by simpa using hlex.2) hh
  have hok' := hokn n
  rcases hn with hn | hn
  · subst hn
    rw [List.take_length] at hany hok'
    refine wpAny_of_head (u := none) (w := w.drew) hM.fresh hok' l.toArray.size _ G0.mem (G0.repF hf) rfl (by simpa using hany) fun f' u' η' w' a' g1 g2 g3 g4 g5 => ?_
    have g1' : Q f' (after S u') := by simpa [dops, dops2] using g1
    exact hq f' (after S u') η' w' a' g1' (G0.trans g2) g3 g4 g5
  · refine any_whole n hn ?_
    have := wpAny_of_head (u := none) (Q' := Exit.then (fun a w => wpList P l.toArray Q' (l.drop n) a w) Q') hM.fresh hok' (l.take n).toArray.size (Array.replicate (l.take n).toArray.size false) G0.mem (G0.repF hf) rfl (by simpa using hany) fun f' u' η' w' a' g1 g2 g3 g4 g5 => by
      refine dops_sound (l.drop n) (fun o ho => by rw [g4]; exact hok o (List.mem_of_mem_drop ho)) g2.mem g3 g1 fun f'' S'' η'' w'' a'' k1 k2 k3 k4 k5 => ?_
      exact hq f'' S'' η'' w'' a'' k1 ((G0.trans g2).trans k2) k3 (by rw [k4, g4]) (by rw [k5, g5])
    exact this
theorem dwpN_sound (hm : P.follows .mixedOrders = true) {l n : Nat} : ∀ (c : Code) {Q : DQ} {S : St} {η : Names} {w : World} {f : Fm} {a : Act} {Q' : Exit → Act → World → Prop}, plainC c = true → codeOk a.tmps.size c = true → Mem P base S η w → RepF P w η (Fix P S η) f a → dwp P c Q f S → ¬ LetsOut Q' →
    (∀ e f' S' η' w' a', Q e f' S' → Goes P base S η w S' η' w' → RepF P w' η' (Fix P S' η') f' a' → a'.tmps.size = a.tmps.size → a'.defers = a.defers → Q' e.up a' w') → c.wpIn (Fence.wide.inRound l) n P Q' a w := by
  intro c
  induction c with
  | skip => intro Q S η w f a Q' _ _ hM hf h _ hq; exact wpIn_skip (hq .normal f S η w a h (Goes.refl hM) hf rfl rfl)
  | label l => intro Q S η w f a Q' _ _ hM hf h _ hq; exact wpIn_label (hq .normal f S η w a h (Goes.refl hM) hf rfl rfl)
  | exit id => intro Q S η w f a Q' _ _ hM hf h _ hq; exact wpIn_exit (hq (.exit id) f S η w a h (Goes.refl hM) hf rfl rfl)
  | region id ops draw =>
    intro Q S η w f a Q' hp hok hM hf h hQ hq
    have hok' : ∀ o ∈ ops.toList, operOk a.tmps.size ops o = true := fun o ho => Array.all_eq_true_iff_forall_mem.1 hok o (by simpa using ho)
    have hd : ∀ o ∈ ops.toList, noDefer o = true := fun o ho => Array.all_eq_true_iff_forall_mem.1 hp o (by simpa using ho)
    cases draw with
    | false => exact wpIn_region_list (listIn_of hQ _ _ _ hd (dops_sound ops.toList hok' hM hf h fun f' S' η' w' a' k1 k2 k3 k4 k5 => hq .normal f' S' η' w' a' k1 k2 k3 k4 k5))
    | true =>
      have := ddraw_any_sound (Q' := Q') (l := ops.toList) hok' hM hf h fun f' S' η' w' a' k1 k2 k3 k4 k5 => hq .normal f' S' η' w' a' k1 k2 k3 k4 k5
      exact wpIn_region_any hm (anyIn_of (fun j o ho => hd o (List.mem_of_getElem? (by simpa using ho))) hQ _ _ _ _ this)
  | seq x y ihx ihy =>
    intro Q S η w f a Q' hp hok hM hf h hQ hq
    simp only [codeOk, plainC, Bool.and_eq_true] at hok hp
    refine wpIn_seq (ihx hp.1 hok.1 hM hf h (fun ⟨a, w, h⟩ => hQ ⟨a, w, h⟩) fun e f' S' η' w' a' k1 k2 k3 k4 k5 => ?_)
    cases e with
    | normal =>
      exact ihy hp.2 (by rw [k4]; exact hok.2) k2.mem k3 k1 hQ fun e f'' S'' η'' w'' a'' g1 g2 g3 g4 g5 => hq e f'' S'' η'' w'' a'' g1 (k2.trans g2) g3 (by rw [g4, k4]) (by rw [g5, k5])
    | exit i => exact hq (.exit i) f' S' η' w' a' k1 k2 k3 k4 k5
    | ret => exact hq .ret f' S' η' w' a' k1 k2 k3 k4 k5
  | cond g x y ihx ihy =>
    intro Q S η w f a Q' hp hok hM hf h hQ hq
    simp only [codeOk, plainC, Bool.and_eq_true] at hok hp
    have hg := hf.ev hok.1.1
    unfold dwp at h
    split at h
    · rename_i b hb
      rw [hb] at hg
      simp only [Rep] at hg
      refine wpIn_cond (t := b) hg ?_
      cases b with
      | true => exact ihx hp.1 hok.1.2 hM hf (h.1 rfl) hQ hq
      | false => exact ihy hp.2 hok.2 hM hf (h.2 rfl) hQ hq
    · exact h.elim
  | block id c ih =>
    intro Q S η w f a Q' hp hok hM hf h hQ hq
    refine wpIn_block (ih hp hok hM hf h (fun ⟨a, w, h⟩ => hQ ⟨a, w, h⟩) fun e f' S' η' w' a' k1 k2 k3 k4 k5 => ?_)
    cases e with
    | normal => exact hq .normal f' S' η' w' a' k1 k2 k3 k4 k5
    | ret => exact hq .ret f' S' η' w' a' k1 k2 k3 k4 k5
    | exit i =>
      simp only [DQ.block] at k1
      simp only [DX.up, Exit.inBlock]
      cases hb : Nat.beq i id with
      | true =>
        rw [if_pos (Nat.eq_of_beq_eq_true hb)]
        rw [hb] at k1
        exact hq .normal f' S' η' w' a' k1 k2 k3 k4 k5
      | false =>
        rw [if_neg (by intro e; rw [e, Nat.beq_refl] at hb; cases hb)]
        rw [hb] at k1
        exact hq (.exit i) f' S' η' w' a' k1 k2 k3 k4 k5
  | loop c ih => intro Q S η w f a Q' hp; cases hp
  | ret => intro Q S η w f a Q' hp; cases hp
  | rangeFunc x ps aa b _ _ => intro Q S η w f a Q' hp; cases hp
  | scope c _ => intro Q S η w f a Q' hp; cases hp
  | goto l => intro Q S η w f a Q' hp; cases hp
  | refuse s => intro Q S η w f a Q' hp; cases hp
end
end Go.Proofs.YtogbklnkpjjkoaaGreatDoor
