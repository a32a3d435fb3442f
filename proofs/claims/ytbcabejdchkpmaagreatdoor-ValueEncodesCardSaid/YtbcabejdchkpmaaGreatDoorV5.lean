/- Texts of a proof, part 5. Conditions: none. -/
import Derived.Test.YtbcabejdchkpmaaGreatDoorV4
import Derived.Test.YtbcabejdchkpmaaGreatDoorRows
import Derived.ChangeSame
import Derived.ChangeVars
import Derived.JoinedOf
import Derived.LaidLaws
import Derived.LaidHandle
import Derived.Stop.Joined
import Derived.Laws.CopyRow
import Derived.Laws.Externs
set_option linter.unusedVariables false
set_option linter.unusedSimpArgs false
namespace Go.Proofs.YtbcabejdchkpmaaGreatDoor
open Go.RowKit
def ixN {α : Type} [DecidableEq α] (l : List α) (x : α) : Nat := l.idxOf x
def ixI {α : Type} [DecidableEq α] (l : List α) (x : α) : Int := if x ∈ l then (ixN l x : Int) else -1
theorem ix_lt {α : Type} [DecidableEq α] {l : List α} {x : α} (h : x ∈ l) : ixN l x < l.length := List.idxOf_lt_length_of_mem h
theorem idxP_ix {α : Type} [DecidableEq α] {l : List α} {x : α} {e : Ending} (h : IdxP (fun i => decide (l[i]? = some x)) l.length e) : e = .returned (.int .i64 (ixI l x)) := by
  rcases h with ⟨k, hk, rfl, h1, h2⟩ | ⟨rfl, h2⟩
  · have hx : l[k] = x := by
      have := of_decide_eq_true h1
      rw [List.getElem?_eq_getElem hk] at this
      exact Option.some.inj this
    have hm : x ∈ l := hx ▸ List.getElem_mem hk
    have hi : ixN l x = k := by
      show l.findIdx (· == x) = k
      rw [List.findIdx_eq hk]
      refine ⟨by simp [hx], fun j hj => ?_⟩
      have := of_decide_eq_false (h2 j hj)
      rw [List.getElem?_eq_getElem (by omega)] at this
      simp only [beq_eq_false_iff_ne, ne_eq]
      exact fun e => this (by rw [e])
    rw [ixI, if_pos hm, hi]
  · have hm : ¬ x ∈ l := fun hm => by
      obtain ⟨j, hj, e⟩ := List.getElem_of_mem hm
      have := of_decide_eq_false (h2 j hj)
      rw [List.getElem?_eq_getElem hj, e] at this
      exact this rfl
    rw [ixI, if_neg hm]
def wholeB (v : DVal) : Bool := decide (v.kind = 5) && decide (v.names.length ≤ v.parts.length)
theorem pfin_cell_tmp_normal {P : Program} {S : St} {f : Fm} (x : Tmp) (t : TypeId) (u : Tmp) (S' : St) (d : D) : DQ.pfin P [.cell x t, .tmp u] S d .normal f S' = dcellR P S' t (f x) (fun r => PFin S S' (.tup [r, f u]) d) := by
  rw [← onVal_cell]
  simp [DQ.pfin, dresL, dres, onVal, one]
theorem pfin_cell_tmp_ret {P : Program} {S : St} {f : Fm} (x : Tmp) (t : TypeId) (u : Tmp) (S' : St) (d : D) : DQ.pfin P [.cell x t, .tmp u] S d .ret f S' = dcellR P S' t (f x) (fun r => PFin S S' (.tup [r, f u]) d) := by
  rw [← onVal_cell]
  simp [DQ.pfin, dresL, dres, onVal, one]
attribute [go_sem] pfin_cell_tmp_normal pfin_cell_tmp_ret
abbrev DStp := Str × Nat
end Go.Proofs.YtbcabejdchkpmaaGreatDoor

namespace Go.Proofs.YtbcabejdchkpmaaGreatDoor
open Go.RowKit
theorem fin_cell_normal {P : Program} {S : St} {f : Fm} {K : D → St → Prop} (x : Tmp) (t : TypeId) (S' : St) : DQ.fin P [.cell x t] S K .normal f S' = dcellR P S' t (f x) (fun r => DFinT P S S' r K) := onVal_cell x t _
theorem fin_cell_ret {P : Program} {S : St} {f : Fm} {K : D → St → Prop} (x : Tmp) (t : TypeId) (S' : St) : DQ.fin P [.cell x t] S K .ret f S' = dcellR P S' t (f x) (fun r => DFinT P S S' r K) := onVal_cell x t _
theorem fin_cell_tmp_normal {P : Program} {S : St} {f : Fm} {K : D → St → Prop} (x : Tmp) (t : TypeId) (u : Tmp) (S' : St) : DQ.fin P [.cell x t, .tmp u] S K .normal f S' = dcellR P S' t (f x) (fun r => DFinT P S S' (.tup [r, f u]) K) := by
  rw [← onVal_cell]
  simp [DQ.fin, dresL, dres, onVal, one]
theorem fin_cell_tmp_ret {P : Program} {S : St} {f : Fm} {K : D → St → Prop} (x : Tmp) (t : TypeId) (u : Tmp) (S' : St) : DQ.fin P [.cell x t, .tmp u] S K .ret f S' = dcellR P S' t (f x) (fun r => DFinT P S S' (.tup [r, f u]) K) := by
  rw [← onVal_cell]
  simp [DQ.fin, dresL, dres, onVal, one]
attribute [go_sem] fin_cell_normal fin_cell_ret fin_cell_tmp_normal fin_cell_tmp_ret
end Go.Proofs.YtbcabejdchkpmaaGreatDoor

namespace Go.Proofs.YtbcabejdchkpmaaGreatDoor
open Go.RowKit
theorem fin_tmp_normal {P : Program} {S : St} {f : Fm} {K : D → St → Prop} (t : Tmp) (S' : St) : DQ.fin P [.tmp t] S K .normal f S' = DFinT P S S' (f t) K := by simp [DQ.fin, dresL, dres, onVal, one]
theorem fin_tmp_ret {P : Program} {S : St} {f : Fm} {K : D → St → Prop} (t : Tmp) (S' : St) : DQ.fin P [.tmp t] S K .ret f S' = DFinT P S S' (f t) K := by simp [DQ.fin, dresL, dres, onVal, one]
attribute [go_sem] fin_tmp_normal fin_tmp_ret
theorem fin_pure {S T : St} (hS : S.WF) {d : D} (hc : d.closed) (hs : S.Sub T) : DFin S T d (fun d' T' => d' = d ∧ T' = S) :=
  ⟨d, S, DLe.refl _, D.all_mono (fun _ h => h.elim) hc, hs.next, Nat.le_refl _, fun k o hk => ⟨hs.ob k o hk, hS.lt hk, fun _ _ _ => .inl hk⟩, rfl, rfl⟩
end Go.Proofs.YtbcabejdchkpmaaGreatDoor

namespace Go.Proofs.YtbcabejdchkpmaaGreatDoor
open Go.RowKit
theorem sv_beq (a b : Str) : ((strB a).toList == (strB b).toList) = decide (a = b) := by
  rw [Bool.eq_iff_iff]; simp [strB, Go.Lib.toList_data]
end Go.Proofs.YtbcabejdchkpmaaGreatDoor

namespace Go.Proofs.YtbcabejdchkpmaaGreatDoor
open Go.RowKit

theorem ob_hit {S : St} {o : Ob} {k : Nat} (h : k = S.next) : (S.add o).ob k = some o := by rw [add_ob, if_pos h]
theorem ob_skip {S : St} {o : Ob} {k : Nat} (h : k ≠ S.next) : (S.add o).ob k = S.ob k := by rw [add_ob, if_neg h]
theorem ob_set {S : St} {o : Ob} {k j : Nat} (h : j = k) : (S.set k o).ob j = some o := by rw [set_ob, if_pos h]
theorem ob_old {S : St} {o : Ob} {k j : Nat} (h : j ≠ k) : (S.set k o).ob j = S.ob j := by rw [set_ob, if_neg h]
theorem drop_next (S : St) (g : Nat) : (S.drop g).next = S.next := Eq.trans (Eq.refl _) (Eq.refl _)
theorem ob_drop {S : St} {g k : Nat} (h : k ≠ g) : (S.drop g).ob k = S.ob k := by simp only [St.drop, if_neg h]
theorem int_zero : ((0 : Nat) : Int) = 0 := Eq.trans (Eq.refl _) (Eq.refl _)
attribute [go_sem] ob_hit ob_skip ob_set ob_old ob_drop drop_next getD_map Int.natCast_nonneg int_zero beq_self_eq_true Int.toNat_zero List.range_zero List.mem_cons List.not_mem_nil or_false forall_eq forall_eq_or_imp false_implies implies_true Option.isSome_some bnd or_true Int.toNat_one Int.le_refl ge_iff_le gt_iff_lt Nat.sub_zero
theorem ddraw_cut {P : Program} {l : List Oper} {R : Fm → St → Prop} {f : Fm} {S : St} (J : Fm → St → Prop) (h : ddraw P l J f S) (hk : ∀ f' S', J f' S' → R f' S') : ddraw P l R f S := by
  rcases h with ⟨n, h1, h2⟩ | ⟨Zs, n, h1, h2, h3⟩
  · exact .inl ⟨n, h1, dhead_mono (fun f' S' hf' => dops_mono hk _ hf') _ h2⟩
  · exact .inr ⟨Zs, n, h1, h2, sAny_mono (fun f' S' hf' => dops_mono hk _ hf') _ _ h3⟩
theorem cells_win_ (k off n c : Nat) : (D.win k off n c).cells = [D.win k off n c] := Eq.trans (Eq.refl _) (Eq.refl _)
theorem okCell_win_ (k off n c : Nat) : (D.win k off n c).okCell = true := Eq.trans (Eq.refl _) (Eq.refl _)
attribute [go_sem] cells_win_ okCell_win_
/-! What is written. -/
def dstOk (W : Nat → Bool) : Option Tmp → Bool
  | none => true
  | some t => W t
def wrOk (W : Nat → Bool) : Code → Bool
  | .region _ ops _ => ops.all fun o => dstOk W o.dst
  | .seq x y => wrOk W x && wrOk W y
  | .cond _ x y => wrOk W x && wrOk W y
  | .block _ c => wrOk W c
  | .loop c => wrOk W c
  | _ => true
def Off (W : Nat → Bool) (f f' : Fm) : Prop := ∀ t, W t = false → f' t = f t
theorem Off.refl (W : Nat → Bool) (f : Fm) : Off W f f := fun _ _ => rfl
theorem Off.trans {W : Nat → Bool} {f g h : Fm} (a : Off W f g) (b : Off W g h) : Off W f h := fun t ht => (b t ht).trans (a t ht)
theorem Off.put {W : Nat → Bool} {f g : Fm} (a : Off W f g) {dst : Option Tmp} (hd : dstOk W dst = true) (d : D) : Off W f (put g dst d) := fun t ht => by
  rw [put_same (fun e => by subst e; simp only [dstOk] at hd; rw [hd] at ht; cases ht)]
  exact a t ht
theorem St.WF.add {S : St} (h : S.WF) (o : Ob) : (S.add o).WF := fun k hk => by
  have hk' : S.next + 1 ≤ k := hk
  simp only [St.add]
  rw [if_neg (by omega)]
  exact h k (by omega)
theorem St.WF.set {S : St} (h : S.WF) {k : Nat} (hk : k < S.next) (o : Ob) : (S.set k o).WF := fun j hj => by
  have hj' : S.next ≤ j := hj
  simp only [St.set]
  rw [if_neg (by omega)]
  exact h j hj'
theorem St.WF.drop {S : St} (h : S.WF) (g : Nat) : (S.drop g).WF := fun j hj => by
  have hj' : S.next ≤ j := hj
  simp only [St.drop]
  split
  · rfl
  · exact h j hj'
theorem St.WF.leave {S : St} (h : S.WF) (o : Own) : (S.leave o).WF := by
  cases o with
  | row g => exact h.drop g
  | no => exact h
  | full => exact h
theorem St.WF.grow {S : St} (h : S.WF) (o : Own) (e : TypeId) (n : Nat) : (S.grow o e n).WF := (h.leave o).add _
theorem St.WF.keep {S : St} (h : S.WF) {n : Nat} (hn : S.next ≤ n) : (St.mk n S.ob).WF := fun k hk => h k (Nat.le_trans hn hk)
theorem St.Sub.keep {S T : St} (h : S.Sub T) {n : Nat} (hn : T.next ≤ n) : S.Sub ⟨n, T.ob⟩ := ⟨Nat.le_trans h.next hn, h.ob⟩
theorem St.Sub.trans {A B C : St} (h : A.Sub B) (k : B.Sub C) : A.Sub C := ⟨Nat.le_trans h.next k.next, fun i o hi => k.ob i o (h.ob i o hi)⟩
theorem DCalls.wf {P : Program} {g : FuncId} {args : List D} {S : St} {K : D → St → Prop} (h : DCalls P g args S K) : DCalls P g args S fun d S' => K d S' ∧ S'.WF := fun base η w vs hM hr => by
  rcases h base η w vs hM hr with ⟨h1, h2⟩ | ⟨d, S', η', v, w', h1, h2, h3, h4⟩
  · exact .inl ⟨h1, h2.mono fun _ _ ⟨d, S', η', v, h1, h2, h3, h4⟩ => ⟨d, S', η', v, ⟨h1, h4.mem.fresh⟩, h2, h3, h4⟩⟩
  · exact .inr ⟨d, S', η', v, w', h1, ⟨h2, h4.mem.fresh⟩, h3, h4⟩
theorem DRun.wf {P : Program} {run : List Value → Sem Value} {args : List D} {S : St} {K : D → St → Prop} (h : DRun P run args S K) : DRun P run args S fun d S' => K d S' ∧ S'.WF := fun base η w vs hM hr => by
  obtain ⟨d, S', η', v, w', h1, h2, h3, h4⟩ := h base η w vs hM hr
  exact ⟨d, S', η', v, w', h1, ⟨h2, h4.mem.fresh⟩, h3, h4⟩
theorem onVal_and {o : Option (Prop × D)} {K : D → Prop} {p : Prop} (hp : p) (h : onVal o K) : onVal o fun d => K d ∧ p := onVal_mono (fun _ hd => ⟨hd, hp⟩) h
section
variable {P : Program} {W : Nat → Bool}
theorem dop_more {f : Fm} {S : St} {ty : TypeId} {op : Op} {K : D → St → Prop} (hS : S.WF) (ho : dop P f S ty op K) : dop P f S ty op fun d S' => K d S' ∧ S'.WF := by
  cases op with
  | alloc t => simp only [dop] at *; exact ⟨ho.1, ho.2, hS.add _⟩
  | box t x => simp only [dop] at *; exact ⟨ho.1, ho.2, hS.add _⟩
  | store t x y =>
    simp only [dop] at *
    split at ho
    · split at ho
      · rename_i k off _ _ t' cs hk
        exact ⟨ho.1, ho.2.1, ho.2.2.1, ho.2.2.2.1, ho.2.2.2.2, hS.set (hS.lt hk) _⟩
      · exact ho
    · exact ho
  | call cl =>
    obtain ⟨callee, args, ts⟩ := cl
    cases callee with
    | value x =>
      simp only [dop] at *
      split at ho
      · exact ho.wf
      · exact ho
    | invoke r m =>
      simp only [dop] at *
      split at ho
      · obtain ⟨g, d', h1, h2⟩ := ho
        exact ⟨g, d', h1, h2.wf⟩
      · exact ho
    | builtin b =>
      by_cases hb : b = .append
      · subst hb
        simp only [dop] at *
        split at ho
        · split at ho
          · rcases ho with ⟨k1, k2, k3, k4, k5, k6, k7, k8⟩ | ⟨k1, k2, k3, k4, k5, k6, k7, k8, k9, k10⟩ | ho
            · exact .inl ⟨k1, k2, k3, k4, k5, k6, k7, k8, hS.grow _ _ _⟩
            · exact .inr (.inl ⟨k1, k2, k3, k4, k5, k6, k7, k8, k9, fun c zs e1 e2 => ⟨k10 c zs e1 e2, hS.add _⟩⟩)
            · exact .inr (.inr ho.wf)
          · exact ho
        · exact ho.wf
        · exact ho
      · cases b <;> first | exact absurd rfl hb | (simp only [dop] at *; exact onVal_and hS ho) | exact DRun.wf ho
  | makeSlice t x y => exact DRun.wf ho
  | typeAssert x xt t ok => exact DRun.wf ho
  | lookup t x i ok => exact DRun.wf ho
  | makeMap t r => exact DRun.wf ho
  | mapUpdate t m k x => exact (DRun.wf ho).mono fun d S' hd => ⟨hd.1.1, hd.1.2, hd.2⟩
  | insert t m k x => exact (DRun.wf ho).mono fun d S' hd => ⟨hd.1.1, hd.1.2, hd.2⟩
  | _ => simp only [dop] at *; exact onVal_and hS ho
theorem dops_more {ops : Array Oper} {Q : Fm → St → Prop} : ∀ (l : List Oper), (∀ o ∈ l, dstOk W o.dst = true) → ∀ {f : Fm} {S : St}, S.WF → dops P ops Q l f S → dops P ops (fun f' S' => Q f' S' ∧ S'.WF ∧ Off W f f') l f S
  | [], _, f, S, hS, h => ⟨h, hS, Off.refl W f⟩
  | o :: l, hw, f, S, hS, h => by
    unfold dops at *
    have h1 := hw o (by simp)
    have h2 : ∀ o' ∈ l, dstOk W o'.dst = true := fun o' ho => hw o' (by simp [ho])
    refine dwanted_mono (fun hy => ?_) (fun hn => ?_) h
    · refine dop_mono (fun d S' hk => ?_) (dop_more hS hy)
      refine dops_mono (fun f' S'' hq => ?_) l (dops_more l h2 hk.2 hk.1)
      exact ⟨hq.1, hq.2.1, (Off.put (Off.refl W f) h1 d).trans hq.2.2⟩
    · refine dops_mono (fun f' S'' hq => ?_) l (dops_more l h2 hS hn)
      exact ⟨hq.1, hq.2.1, (Off.put (Off.refl W f) h1 _).trans hq.2.2⟩
theorem dhead_more {ops : Array Oper} {S : St} (hS : S.WF) {Q : Fm → St → Prop} : ∀ (l : List Oper), (∀ o ∈ l, dstOk W o.dst = true) → ∀ {f : Fm} {u : Option Ob}, dhead P ops S Q l f u → dhead P ops S (fun f' S' => Q f' S' ∧ S'.WF ∧ Off W f f') l f u
  | [], _, f, u, h => ⟨h, (by cases u with | none => exact hS | some b => exact hS.add b), Off.refl W f⟩
  | o :: l, hw, f, u, h => by
    unfold dhead at *
    have h1 := hw o (by simp)
    have h2 : ∀ o' ∈ l, dstOk W o'.dst = true := fun o' ho => hw o' (by simp [ho])
    have go : ∀ (d : D) (u' : Option Ob), dhead P ops S Q l (put f o.dst d) u' → dhead P ops S (fun f' S' => Q f' S' ∧ S'.WF ∧ Off W f f') l (put f o.dst d) u' := fun d u' hd =>
      dhead_mono (fun f' S' hq => ⟨hq.1, hq.2.1, (Off.put (Off.refl W f) h1 d).trans hq.2.2⟩) l (dhead_more hS l h2 hd)
    split at h
    · exact hop_mono (fun d u' hd => go d u' hd) h
    · exact dwanted_mono (fun hq => dquiet_mono (fun d hd => go d u hd) hq) (go _ u) h
theorem sAny_more {ops : Array Oper} {md : Region.Mode} {Zs : St → Prop} {Q : Fm → St → Prop} (hw : ∀ (j : Nat) (o : Oper), ops[j]? = some o → dstOk W o.dst = true) : ∀ (fuel : Nat) (L : Array Bool) {f : Fm} {S : St}, S.WF → sAny P md ops Zs Q fuel L f S → sAny P md ops Zs (fun f' S' => Q f' S' ∧ S'.WF ∧ Off W f f') fuel L f S
  | 0, _, f, _, hS, k => ⟨k.1, k.2, hS, Off.refl W f⟩
  | n + 1, L, f, S, hS, k => by
    refine ⟨fun e => ⟨k.1 e, hS, Off.refl W f⟩, fun i hi => ?_⟩
    have h2 := k.2 i hi
    unfold sOp at *
    cases ho : ops[i]? with
    | none => rw [ho] at h2; exact sAny_more hw n _ hS h2
    | some o =>
      rw [ho] at h2
      have h1 := hw i o ho
      have go : ∀ d (S' : St), S'.WF → sAny P md ops Zs Q n (L.setIfInBounds i true) (put f o.dst d) S' → sAny P md ops Zs (fun f' S' => Q f' S' ∧ S'.WF ∧ Off W f f') n (L.setIfInBounds i true) (put f o.dst d) S' := fun d S' hS' hk =>
        sAny_mono (fun f' S' hq => ⟨hq.1, hq.2.1, (Off.put (Off.refl W f) h1 d).trans hq.2.2⟩) _ _ (sAny_more hw n _ hS' hk)
      rcases h2 with ⟨d, e1, e2⟩ | ⟨e1, e2⟩
      · exact .inl ⟨d, e1, go d S hS e2⟩
      · exact .inr ⟨e1, dop_mono (fun d S' hk => ⟨hk.1.1, go d S' hk.2 hk.1.2⟩) (dop_more hS e2)⟩
theorem dwp_more : ∀ (c : Code) {Q : DQ} {f : Fm} {S : St}, wrOk W c = true → S.WF → dwp P c Q f S → dwp P c (fun e f' S' => Q e f' S' ∧ S'.WF ∧ Off W f f') f S := by
  intro c
  induction c with
  | region id ops draw =>
    intro Q f S hw hS h
    have hw' : ∀ o ∈ ops.toList, dstOk W o.dst = true := fun o ho => Array.all_eq_true_iff_forall_mem.1 hw o (by simpa using ho)
    cases draw with
    | false => exact dops_more _ hw' hS h
    | true =>
      rcases h with ⟨n, h1, h2⟩ | ⟨Zs, n, h1, h2, h3⟩
      rotate_left
      · refine .inr ⟨Zs, n, h1, h2, sAny_mono (fun f' S' hq => ?_) _ _ (sAny_more (W := W) (fun j o ho => hw' o (by
          have := List.mem_of_getElem? (show (ops.toList.take n)[j]? = some o by simpa using ho)
          exact List.mem_of_mem_take this)) _ _ hS h3)⟩
        refine dops_mono (fun f'' S'' hk => ?_) _ (dops_more (W := W) _ (fun o ho => hw' o (List.mem_of_mem_drop ho)) hq.2.1 hq.1)
        exact ⟨hk.1, hk.2.1, hq.2.2.trans hk.2.2⟩
      refine .inl ⟨n, h1, dhead_mono (fun f' S' hq => ?_) _ (dhead_more (W := W) hS _ (fun o ho => hw' o (List.mem_of_mem_take ho)) h2)⟩
      refine dops_mono (fun f'' S'' hk => ?_) _ (dops_more (W := W) _ (fun o ho => hw' o (List.mem_of_mem_drop ho)) hq.2.1 hq.1)
      exact ⟨hk.1, hk.2.1, hq.2.2.trans hk.2.2⟩
  | seq x y ihx ihy =>
    intro Q f S hw hS h
    simp only [wrOk, Bool.and_eq_true] at hw
    refine dwp_mono x (fun e f2 S2 hq => ?_) (ihx hw.1 hS h)
    cases e with
    | normal =>
      refine dwp_mono y (fun e3 f3 S3 h3 => ?_) (ihy (Q := Q) hw.2 hq.2.1 hq.1)
      exact ⟨h3.1, h3.2.1, hq.2.2.trans h3.2.2⟩
    | exit i => exact hq
    | ret => exact hq
  | cond g x y ihx ihy =>
    intro Q f S hw hS h
    simp only [wrOk, Bool.and_eq_true] at hw
    unfold dwp at h ⊢
    generalize ev f g = u at h ⊢
    cases u with
    | v u => cases u with
      | bool b => exact ⟨fun e => ihx hw.1 hS (h.1 e), fun e => ihy hw.2 hS (h.2 e)⟩
      | _ => exact h
    | _ => exact h
  | block id c ih =>
    intro Q f S hw hS h
    refine dwp_mono c (fun e f2 S2 hq => ?_) (ih hw hS h)
    cases e with
    | normal => exact hq
    | ret => exact hq
    | exit i =>
      simp only [DQ.block] at *
      cases hb : Nat.beq i id with
      | true => rw [hb] at hq; exact hq
      | false => rw [hb] at hq; exact hq
  | loop c ih =>
    intro Q f S hw hS h
    obtain ⟨I, μ, h0, hr⟩ := h
    refine ⟨fun g T => I g T ∧ T.WF ∧ Off W f g, μ, ⟨h0, hS, Off.refl W f⟩, fun g T ⟨hI, hT, hg⟩ => ?_⟩
    refine dwp_mono c (fun e f2 S2 hq => ?_) (ih hw hT (hr g T hI))
    obtain ⟨hq, hwf, hoff⟩ := hq
    cases e with
    | normal =>
      obtain ⟨S'', ⟨s1, s2⟩, s3, s4⟩ := hq
      refine ⟨S'', ⟨s1, s2⟩, ⟨s3, fun k hk => ?_, hg.trans hoff⟩, s4⟩
      cases ho : S''.ob k with
      | none => rfl
      | some o => have := s2 k o ho; rw [hwf k (by omega)] at this; cases this
    | exit i => exact ⟨hq, hwf, hg.trans hoff⟩
    | ret => exact ⟨hq, hwf, hg.trans hoff⟩
  | skip => intro Q f S _ hS k; exact ⟨k, hS, Off.refl W f⟩
  | label l => intro Q f S _ hS k; exact ⟨k, hS, Off.refl W f⟩
  | exit i => intro Q f S _ hS k; exact ⟨k, hS, Off.refl W f⟩
  | ret => intro Q f S _ hS k; exact ⟨k, hS, Off.refl W f⟩
  | rangeFunc x ps aa b _ _ => intro Q f S _ _ k; exact k.elim
  | scope c _ => intro Q f S _ _ k; exact k.elim
  | goto l => intro Q f S _ _ k; exact k.elim
  | refuse s => intro Q f S _ _ k; exact k.elim
def dnextR (I : Nat → Fm → St → Prop) (m : Nat) (f' : Fm) (S' : St) : Prop := ∃ (m' : Nat) (ob : Nat → Option Ob), m' < m ∧ (∀ k o, ob k = some o → S'.ob k = some o) ∧ I m' f' ⟨S'.next, ob⟩
theorem least_of {p : Nat → Prop} (h : ∃ n, p n) : ∃ n, p n ∧ ∀ m, p m → n ≤ m := by
  obtain ⟨n, hn⟩ := h
  induction n using Nat.strongRecOn with
  | _ n ih =>
    by_cases hx : ∃ m, m < n ∧ p m
    · obtain ⟨m, h1, h2⟩ := hx
      exact ih m h1 h2
    · refine ⟨n, hn, fun m hm => ?_⟩
      rcases Nat.lt_or_ge m n with h1 | h1
      · exact absurd ⟨m, h1, hm⟩ hx
      · exact h1
theorem dloop_down {c : Code} {Q : DQ} {f : Fm} {S : St} (W : Nat → Bool) (hW : wrOk W c = true) (hS : S.WF) (I : Nat → Fm → St → Prop) (m : Nat) (h0 : I m f S)
    (hr : ∀ m g T, T.WF → Off W f g → I m g T → dwp P c (DQ.then (dnextR I m) Q) g T) : DLoop (dwp P c) Q f S := by
  classical
  let J : Fm → St → Nat → Prop := fun g T m => I m g T ∧ T.WF ∧ Off W f g
  refine ⟨fun g T => ∃ m, J g T m, fun g T => if h : ∃ m, J g T m then Classical.choose (least_of h) else 0, ⟨m, h0, hS, Off.refl W f⟩, fun g T hI => ?_⟩
  have hf := (Classical.choose_spec (least_of hI)).1
  obtain ⟨h1, h2, h3⟩ := hf
  refine dwp_mono c (fun e f2 S2 hq => ?_) (dwp_more (W := W) c hW h2 (hr _ g T h2 h3 h1))
  obtain ⟨hq, hwf, hoff⟩ := hq
  cases e with
  | normal =>
    obtain ⟨m', ob, k1, k2, k3⟩ := hq
    have hw2 : (St.mk S2.next ob).WF := fun k hk => by
      cases ho : ob k with
      | none => exact ho
      | some o => have := k2 k o ho; rw [hwf k hk] at this; cases this
    have hj : J f2 ⟨S2.next, ob⟩ m' := ⟨k3, hw2, h3.trans hoff⟩
    refine ⟨⟨S2.next, ob⟩, ⟨rfl, k2⟩, ⟨m', hj⟩, ?_⟩
    show (if h : ∃ m, J f2 ⟨S2.next, ob⟩ m then Classical.choose (least_of h) else 0) < (if h : ∃ m, J g T m then Classical.choose (least_of h) else 0)
    rw [dif_pos ⟨m', hj⟩, dif_pos hI]
    exact Nat.lt_of_le_of_lt ((Classical.choose_spec (least_of ⟨m', hj⟩)).2 m' hj) k1
  | exit i => exact hq
  | ret => exact hq
def dnextU (I : Nat → Fm → St → Prop) (n i : Nat) (f' : Fm) (S' : St) : Prop := i < n ∧ ∃ ob : Nat → Option Ob, (∀ k o, ob k = some o → S'.ob k = some o) ∧ I (i + 1) f' ⟨S'.next, ob⟩
theorem dloop_up {c : Code} {Q : DQ} {f : Fm} {S : St} (W : Nat → Bool) (hW : wrOk W c = true) (hS : S.WF) (n : Nat) (I : Nat → Fm → St → Prop) (h0 : I 0 f S)
    (hr : ∀ i g T, T.WF → Off W f g → I i g T → dwp P c (DQ.then (dnextU I n i) Q) g T) : DLoop (dwp P c) Q f S := by
  refine dloop_down W hW hS (fun m g T => ∃ i, m = n - i ∧ I i g T) (n - 0) ⟨0, rfl, h0⟩ fun m g T hT hg ⟨i, hm, hI⟩ => ?_
  subst hm
  refine dwp_mono c (fun e f2 S2 hq => ?_) (hr i g T hT hg hI)
  cases e with
  | normal =>
    obtain ⟨k1, ob, k2, k3⟩ := hq
    exact ⟨n - (i + 1), ob, by omega, k2, i + 1, rfl, k3⟩
  | exit i => exact hq
  | ret => exact hq
def dnextS (S : St) (I : Nat → Fm → Prop) (n i : Nat) (f' : Fm) (S' : St) : Prop := i < n ∧ S.Sub S' ∧ I (i + 1) f'
theorem dloop_st {c : Code} {Q : DQ} {f : Fm} {S : St} (W : Nat → Bool) (hW : wrOk W c = true) (hS : S.WF) (n : Nat) (I : Nat → Fm → Prop) (h0 : I 0 f)
    (hr : ∀ i g tn, S.next ≤ tn → (St.mk tn S.ob).WF → Off W f g → I i g → dwp P c (DQ.then (dnextS S I n i) Q) g ⟨tn, S.ob⟩) : DLoop (dwp P c) Q f S := by
  refine dloop_up W hW hS n (fun i g T => S.next ≤ T.next ∧ T.ob = S.ob ∧ I i g) ⟨Nat.le_refl _, rfl, h0⟩ fun i g T hT hg ⟨h1, h2, h3⟩ => ?_
  obtain ⟨tn, tob⟩ := T
  have h2' : tob = S.ob := h2
  subst h2'
  refine dwp_mono c (fun e f2 S2 hq => ?_) (hr i g tn h1 hT hg h3)
  cases e with
  | normal => exact ⟨hq.1, S.ob, hq.2.1.ob, hq.2.1.next, rfl, hq.2.2⟩
  | exit i => exact hq
  | ret => exact hq
/-! A row that grows. -/
def rowOf (S : St) (own : Own) (e : TypeId) (n : Nat) : Nat → Option Ob := fun k => match own with
  | .row g => if k = g then some (.row e n) else S.ob k
  | _ => S.ob k
def RowOk (lo : Nat) (S : St) (own : Own) (n : Nat) : Prop := own = .full ∨ ∃ g, own = .row g ∧ lo ≤ g ∧ S.ob g = none ∧ g < n
theorem rowOf_some {lo : Nat} {S : St} {own : Own} {n : Nat} (h : RowOk lo S own n) {e : TypeId} {m k : Nat} {o : Ob} (hk : S.ob k = some o) : rowOf S own e m k = some o := by
  rcases h with rfl | ⟨g, rfl, _, h1, _⟩
  · exact hk
  · have : k ≠ g := fun e => by subst e; rw [h1] at hk; cases hk
    show (if k = g then _ else _) = _
    rw [if_neg this]
    exact hk
theorem RowOk.sub {lo : Nat} {S : St} {own : Own} {e : TypeId} {m n : Nat} (h : RowOk lo S own n) (hn : S.next ≤ n) : S.Sub ⟨n, rowOf S own e m⟩ := ⟨hn, fun k o hk => rowOf_some h hk⟩
theorem leave_next (S : St) (own : Own) : (S.leave own).next = S.next := by cases own <;> rfl
theorem aI {a b : Prop} (h : b) (ha : a := by with_reducible first | omega | assumption | rfl) : a ∧ b := ⟨ha, h⟩
theorem nx : (∀ (S : St) (o : Ob), (S.add o).next = S.next + 1) ∧ (∀ (S : St) (k : Nat) (o : Ob), (S.set k o).next = S.next) ∧ (∀ (S : St) (own : Own) (e : TypeId) (n : Nat), (S.grow own e n).next = S.next + 1) ∧ (∀ (S : St) (own : Own), (S.leave own).next = S.next) ∧ (∀ (S : St) (g : Nat), (S.drop g).next = S.next) ∧ (∀ (α β : Type) (f : α → β) (l : List α), (l.map f).length = l.length) :=
  ⟨add_next, set_next, grow_next, leave_next, drop_next, fun _ _ f l => List.length_map ..⟩
abbrev RowOk.lo {lo : Nat} {S : St} {own : Own} {n : Nat} (_ : RowOk lo S own n) : Nat := lo
end
end Go.Proofs.YtbcabejdchkpmaaGreatDoor

namespace Go.Proofs.YtbcabejdchkpmaaGreatDoor
open Go.ChangeShapes Go.WideShapes Go.RowKit
theorem door_own : ownKnob Tryz.prog.godebug = none := by kernel_rfl
theorem door_laidOut : laidOutB Tryz.prog = true := by kernel_rfl
theorem door_et : Tryz.prog.globalNamed "errors.errorType" = some 0 := by kernel_rfl
theorem door_rt : (Tryz.prog.cutTypes.find? (·.1 == "internal/reflectlite.rtype")).map (·.2) = some 94 := by kernel_rfl
theorem door_row : ((List.range Tryz.prog.types.size).filter fun t => Tryz.prog.rowNamed t [101, 114, 114, 111, 114]) = [31] := by kernel_rfl
abbrev doorLaid {H : Type} : List (String × DataW H) := [("errors.errorType", Rows.laid_errors_errorType)]
theorem handle_of_laid {W : World} (h : laidMetH Tryz.prog doorLaid W) : W.cell? ⟨0, 0, none⟩ = some (.iface 94 (.agg #[.pointer (some ⟨1, 31, none⟩)])) := by
  have h' : laidMet Tryz.prog [] W ∧ handlesMet Tryz.prog doorLaid W := h
  obtain ⟨name, u, ty, e1, e2, e3, e4, e5⟩ := h'.2 _ (List.mem_singleton.2 rfl)
  have en : name = [101, 114, 114, 111, 114] := (Option.some.inj e1).symm
  subst en
  obtain rfl := Option.some.inj (door_rt.symm.trans e2)
  have hm : ty ∈ (List.range Tryz.prog.types.size).filter fun t => Tryz.prog.rowNamed t [101, 114, 114, 111, 114] := List.mem_filter.2 ⟨List.mem_range.2 e3, e4⟩
  rw [door_row] at hm
  obtain rfl := List.mem_singleton.1 hm
  have hh : typeHandle Tryz.prog 31 = .pointer (some ⟨1, 31, none⟩) := by kernel_rfl
  rw [hh] at e5
  simpa using World.var?_cell door_et e5 0
theorem glob_of_laid {W : World} (h : laidMetH Tryz.prog doorLaid W) : GlobOk W.heap.size W := fun p hp => by
  have hc := handle_of_laid h
  have e : p = (0, .iface 94 (.agg #[.pointer (some ⟨1, 31, none⟩)])) := List.mem_singleton.1 hp
  subst e
  refine ⟨?_, hc⟩
  rcases Nat.lt_or_ge 0 W.heap.size with h0 | h0
  · exact h0
  · exact absurd hc (by simp [World.cell?, Array.getElem?_eq_none h0])
def door_st : St := ⟨0, fun _ => none⟩
section
variable {P : Program}
theorem door_mem (w : World) (hg : GlobOk w.heap.size w) : Mem P w.heap.size door_st (fun _ => none) w := ⟨Nat.le_refl _, fun _ _ => rfl, fun _ _ => rfl, (fun _ _ _ h => by cases h), (fun _ _ _ h => by cases h), (fun _ _ h => by cases h), (fun _ _ _ _ h => by cases h), (fun _ _ _ _ h => by cases h), hg⟩
theorem fix_nilD (b i : Nat) : Fix P door_st (fun _ => none) b i := fun _ _ h => by cases h
theorem door_gives {g : FuncId} {args : List D} {v : Value} (h : DPure P g args (.v v)) {w : World} {vs : List Value} (hr : RepL P w (fun _ => none) (Fix P door_st fun _ => none) args vs) (hent : ∀ vs w, (callFunc g vs).run P w = .ok (.enter g vs) w := by intro _ _; kernel_rfl) (hg : GlobOk w.heap.size w) : Calls P g vs.toArray w (Gives v w) := by
  rcases h door_st w.heap.size _ w vs (door_mem w hg) hr with ⟨_, k⟩ | ⟨d, S', η', u, w', k, _⟩
  · refine k.mono fun _ _ ⟨d, S', η', u, ⟨h1, _⟩, h2, h3, h4⟩ => ?_
    subst h1
    simp only [Rep] at h3
    subst h3
    exact ⟨h2, h4.below⟩
  · rw [hent] at k
    injection k with k
    cases k
end
noncomputable def laidWorld (os : Os) : World :=
  let w0 := World.holding Tryz.prog os ⟨#[], #[], []⟩
  { w0 with heap := w0.heap.modify 0 fun
      | .cells _ t frozen => .cells #[.iface 94 (.agg #[.pointer (some ⟨1, 31, none⟩)])] t frozen
      | o => o }
theorem laidWorld_met (os : Os) (args : Array Value) : laidMetH Tryz.prog doorLaid ((laidWorld os).forCall (fun _ _ => 0) ⟨#[], args, []⟩).memory :=
  laidMetH_of_parts (laidMet_nil _ _) (by kernel_rfl)
end Go.Proofs.YtbcabejdchkpmaaGreatDoor

namespace Go.Proofs.YtbcabejdchkpmaaGreatDoor
open Go.RowKit

mutual
def D.thaw (k : Nat) (es : List D) : D → D
  | .agg cs => .agg (thawL k es cs)
  | .tup cs => .tup (thawL k es cs)
  | .win j off n c => bif Nat.beq j k && (Nat.beq off 0 && Nat.beq n es.length) then .sl .no es else .win j off n c
  | .v x => .v x
  | .fn f fs cs => .fn f fs cs
  | .ifc t d => .ifc t d
  | .loc j o => .loc j o
  | .rd cs o => .rd cs o
  | .sl o l => .sl o l
def thawL (k : Nat) (es : List D) : List D → List D
  | [] => []
  | d :: l => d.thaw k es :: thawL k es l
end
section
variable {P : Program} {base : Nat} {S : St} {η : Names} {w : World}
theorem win_cells (hM : Mem P base S η w) {k b : Nat} {e : TypeId} {es zs : List D} (hk : S.ob k = some (.box e (flat es ++ zs))) (hb : η k = some (some b)) (hw : ∀ d ∈ es, d.width = szOf P e) {X : Nat → Nat → Prop} (hX : ∀ i, X b i) {w' : World} {η' : Names} (hE : w' = w) (hK : ∀ {l : List D} {vs : List Value}, RepL P w η (Fix P S η) l vs → RepL P w' η' X l vs) : RepE P w' η' X (szOf P e) es b 0 := by
  subst hE
  obtain ⟨vs, h1, h2, h3⟩ := hM.box k e _ b hk hb
  refine RepE.of_flat hw ?_
  have h4 := RepC.mk (b := b) (o := 0) (hK h2) (fun j v hj => by
    rw [Nat.zero_add]
    have : w'.cell? ⟨b, j, none⟩ = vs.toArray[j]? := by simp [World.cell?, h1]
    rw [this]; simpa using hj) (fun j _ => hX _) h3
  exact h4.left.1
mutual
theorem Rep.thaw (hM : Mem P base S η w) {k : Nat} {e : TypeId} {es zs : List D} (hk : es = [] ∨ S.ob k = some (.box e (flat es ++ zs))) (hz : 0 < szOf P e) (hw : ∀ d ∈ es, d.width = szOf P e) : ∀ {d : D} {v : Value}, Rep P w η (Fix P S η) d v → Rep P w η (Fix P (S.drop k) η) (d.thaw k es) v
  | .v x, v, h => by simp only [D.thaw]; exact (goes_drop hM k).rep h
  | .fn f fs cs, v, h => by simp only [D.thaw]; exact (goes_drop hM k).rep h
  | .ifc t d, v, h => by simp only [D.thaw]; exact (goes_drop hM k).rep h
  | .loc j o, v, h => by simp only [D.thaw]; exact (goes_drop hM k).rep h
  | .rd cs o, v, h => by simp only [D.thaw]; exact (goes_drop hM k).rep h
  | .sl o l, v, h => by simp only [D.thaw]; exact (goes_drop hM k).rep h
  | .agg cs, v, h => by
    simp only [D.thaw, Rep] at *
    obtain ⟨vs, h1, h2, h3⟩ := h
    exact ⟨vs, h1, RepL.thaw hM hk hz hw h2, h3⟩
  | .tup cs, v, h => by
    simp only [D.thaw, Rep] at *
    obtain ⟨vs, h1, h2⟩ := h
    exact ⟨vs, h1, RepL.thaw hM hk hz hw h2⟩
  | .win j off n c, v, h => by
    cases hb : (Nat.beq j k && (Nat.beq off 0 && Nat.beq n es.length)) with
    | false =>
      have e1 : (D.win j off n c).thaw k es = .win j off n c := by simp only [D.thaw, hb, cond_false]
      rw [e1]
      exact (goes_drop hM k).rep h
    | true =>
      rw [Bool.and_eq_true, Bool.and_eq_true] at hb
      have e1 : j = k := Nat.eq_of_beq_eq_true hb.1
      have e4 : off = 0 := Nat.eq_of_beq_eq_true hb.2.1
      have e2 : n = es.length := Nat.eq_of_beq_eq_true hb.2.2
      subst e1 e2 e4
      have e3 : (D.win j 0 es.length c).thaw j es = .sl .no es := by simp [D.thaw]
      rw [e3]
      obtain ⟨A, h2, h3, h4, h1⟩ := h.win_slice
      simp only [Rep]
      refine ⟨A, c, h2, h3, h4, trivial, fun hpos => ?_⟩
      rcases hk with hk | hk
      · rw [hk] at hpos; exact absurd hpos (by simp)
      rcases h1 with ⟨b, h1, rfl⟩ | ⟨_, h1, _⟩
      rotate_left
      · omega
      refine ⟨b, 0, szOf P e, rfl, hz, ?_⟩
      refine win_cells hM hk h1 hw (fun i k' o hk' ho => ?_) rfl (fun hr => (goes_drop hM j).repL hr)
      by_cases hkj : k' = j
      · subst hkj
        simp [St.drop] at ho
      · simp only [St.drop, if_neg hkj] at ho
        exact absurd (hM.inj k' j b hk' h1 (by rw [ho]; rfl) (by rw [hk]; rfl)) hkj
theorem RepL.thaw (hM : Mem P base S η w) {k : Nat} {e : TypeId} {es zs : List D} (hk : es = [] ∨ S.ob k = some (.box e (flat es ++ zs))) (hz : 0 < szOf P e) (hw : ∀ d ∈ es, d.width = szOf P e) : ∀ {l : List D} {vs : List Value}, RepL P w η (Fix P S η) l vs → RepL P w η (Fix P (S.drop k) η) (thawL k es l) vs
  | [], vs, h => by simp only [thawL, RepL] at *; exact h
  | d :: l, vs, h => by
    simp only [thawL, RepL] at *
    obtain ⟨x, xs, h1, h2, h3⟩ := h
    exact ⟨x, xs, h1, Rep.thaw hM hk hz hw h2, RepL.thaw hM hk hz hw h3⟩
end
end
def ownOb (e : TypeId) (es zs : List D) (c : Nat) : Ob := bif Nat.beq c 0 then .row e 0 else .box e (flat es ++ zs)
theorem ownOb_box {e : TypeId} {es zs : List D} {c : Nat} (h : 0 < c) : ownOb e es zs c = .box e (flat es ++ zs) := by
  cases c with
  | zero => omega
  | succ c => rfl
theorem ownOb_nil (e : TypeId) (es zs : List D) : ownOb e es zs 0 = .row e 0 := rfl
theorem thaw_own {P : Program} {S : St} {k c : Nat} {e : TypeId} {es zs : List D} (hk : S.ob k = some (ownOb e es zs c)) (hc : es.length ≤ c) (hz : 0 < szOf P e) (hw : ∀ d ∈ es, d.width = szOf P e) {d d1 : D} (hd : d.thaw k es = d1) : Thaw P S d (S.drop k) d1 := fun base η w v hM hr => by
  refine ⟨η, goes_drop hM k, hd ▸ Rep.thaw (zs := zs) hM ?_ hz hw hr⟩
  rcases Nat.eq_zero_or_pos c with rfl | h
  · exact .inl (List.eq_nil_of_length_eq_zero (by omega))
  · rw [ownOb_box h] at hk
    exact .inr hk
theorem DPure.weak {P : Program} {g : FuncId} {args args' : List D} {d : D} (k : DPure P g args' d) (h : frzL args = args') : DPure P g args d := fun S base η w vs hM hr => k S base η w vs hM (h ▸ RepL.frz hr)
theorem flat_cons (d : D) (l : List D) : flat (d :: l) = d.cells ++ flat l := by simp [flat]
theorem splice_flat : ∀ {es : List D} {zs : List D} {z : Nat} (i : Nat) {y : D}, i < es.length → (∀ d ∈ es, d.width = z) → y.width = z → splice (flat es ++ zs) (0 + i * z) y.cells = flat (es.set i y) ++ zs
  | [], _, _, i, _, h, _, _ => by simp at h
  | d :: es, zs, z, 0, y, _, hw, hy => by
    have h1 : d.cells.length = z := hw d (by simp)
    have h2 : y.cells.length = z := hy
    simp only [List.set_cons_zero, flat_cons, splice, Nat.zero_mul, Nat.add_zero, List.take_zero, List.nil_append, Nat.zero_add, h2, List.append_assoc]
    rw [List.drop_append, List.drop_of_length_le (by omega), h1, Nat.sub_self, List.drop_zero, List.nil_append]
  | d :: es, zs, z, i + 1, y, hi, hw, hy => by
    have h1 : d.cells.length = z := hw d (by simp)
    have ih := splice_flat (es := es) (zs := zs) (z := z) i (y := y) (by simpa using hi) (fun d' hd' => hw d' (by simp [hd'])) hy
    simp only [List.set_cons_succ, flat_cons, List.append_assoc]
    rw [← ih]
    simp only [splice, Nat.zero_add]
    have e1 : (i + 1) * z = z + i * z := by rw [Nat.add_mul]; omega
    rw [e1, List.take_append, List.drop_append, h1]
    rw [List.take_of_length_le (l := d.cells) (by omega), List.drop_of_length_le (l := d.cells) (by omega)]
    rw [show z + i * z - z = i * z by omega, show z + i * z + y.cells.length - z = i * z + y.cells.length by omega]
    simp [List.append_assoc]
theorem splice_flat' {es zs : List D} {z i : Nat} {y : D} (hi : i < es.length) (hw : ∀ d ∈ es, d.width = z) (hy : y.width = z) : List.take (i * z) (flat es ++ zs) ++ y.cells ++ List.drop (i * z + z) (flat es ++ zs) = flat (es.set i y) ++ zs := by
  have := splice_flat (zs := zs) i hi hw hy
  rw [← this]
  simp only [splice, Nat.zero_add]
  rw [show y.cells.length = z from hy]
theorem dquietR_of {P : Program} {f : Fm} {S : St} {ty : TypeId} {op : Op} {d : D} (h : dquiet P f S ty op fun d' => d' = d) : dquietR P f S ty op d := by
  obtain ⟨d', h1, rfl⟩ := dquiet_iff.1 h
  exact h1
end Go.Proofs.YtbcabejdchkpmaaGreatDoor

namespace Go.Proofs.YtbcabejdchkpmaaGreatDoor
open Go.RowKit
def DQ.inl (P : Program) (rs : List ResultVar) (K : D → St → Prop) : DQ
  | .exit _, _, _ => False
  | _, f, S' => dresL P f S' rs fun ds => K (one ds) S'
theorem dcalls_inline {P : Program} (hm : P.follows .mixedOrders = true) {g : FuncId} {fn : Func} {c : Code} (hf : P.funcs[g]? = some fn) (hb : fn.body = some c) (hent : ∀ vs w, (callFunc g vs).run P w = .ok (.enter g vs) w) {rs : List ResultVar} (hrs : fn.results.toList = rs) {args : List D} (hok : (codeOk fn.ntmps c && fn.results.all (resOk fn.ntmps) && Nat.ble args.length fn.ntmps) = true) {S : St} {K : D → St → Prop}
    (h : S.WF → dwp P c (DQ.inl P rs K) (argF args) S) : DCalls P g args S K := by
  subst hrs
  intro base η w vs hM hr
  refine .inl ⟨hent _ _, ?_⟩
  simp only [Bool.and_eq_true] at hok
  obtain ⟨⟨hok1, hok2⟩, hok3⟩ := hok
  have hlen : args.length ≤ fn.ntmps := Nat.le_of_ble_eq_true hok3
  have hl := hr.length
  have hsz : (vs.toArray ++ Array.replicate (fn.ntmps - vs.toArray.size) undef).size = fn.ntmps := by simp; omega
  refine calls_of_wp hf hb ?_
  refine dwp_sound hm c (a := { tmps := vs.toArray ++ Array.replicate (fn.ntmps - vs.toArray.size) undef, defers := [] }) (by rw [hsz]; exact hok1) hM (fun t ht => ?_) (h hM.fresh) fun e f' S' η' w' a' k1 k2 k3 k4 k5 => ?_
  · rw [hsz] at ht
    simp only [argF]
    by_cases h1 : t < vs.length
    · obtain ⟨x, hx, hr'⟩ := hr.get t (List.getElem?_eq_getElem (by omega : t < args.length))
      have e1 : args.getD t undefD = args[t] := by rw [List.getD_eq_getElem?_getD, List.getElem?_eq_getElem (by omega : t < args.length)]; rfl
      have e2 : (vs.toArray ++ Array.replicate (fn.ntmps - vs.toArray.size) undef).getD t undef = x := by
        rw [Array.getD_eq_getD_getElem?, Array.getElem?_append_left (by simpa using h1)]
        simp [hx]
      rw [e1, e2]
      exact hr'
    · have e1 : args.getD t undefD = undefD := by rw [List.getD_eq_getElem?_getD, List.getElem?_eq_none (by omega)]; rfl
      have e2 : (vs.toArray ++ Array.replicate (fn.ntmps - vs.toArray.size) undef).getD t undef = undef := by
        rw [Array.getD_eq_getD_getElem?, Array.getElem?_append_right (by simpa using h1)]
        rw [Array.getElem?_replicate]
        split <;> rfl
      rw [e1, e2]
      simp only [Rep, RepL]
      exact ⟨[], rfl, rfl⟩
  · have hsz' : a'.tmps.size = fn.ntmps := by rw [k4]; exact hsz
    have hd' : a'.defers = [] := k5
    have fin : dresL P f' S' fn.results.toList (fun ds => K (one ds) S') → a'.defers = [] ∧ ∃ v, (results fn a'.tmps).run P w' = .ok v w' ∧ ∃ d S'' η'' u, K d S'' ∧ Ending.returned v = .returned u ∧ Rep P w' η'' (Fix P S'' η'') d u ∧ Goes P base S η w S'' η'' w' := fun hres => by
      obtain ⟨ds, v, hk, q7, q8⟩ := results_sound k2.mem k3 (by rw [hsz']; exact hok2) hres
      exact ⟨hd', v, q8, one ds, S', η', v, hk, rfl, q7, k2⟩
    cases e with
    | normal => exact fin k1
    | ret => exact fin k1
    | exit i => exact k1.elim
section
variable {P : Program} {S : St} {f : Fm} {K : D → St → Prop}
theorem inl_ret (t : Tmp) (S' : St) : DQ.inl P [.tmp t] K .ret f S' = K (f t) S' := by simp [DQ.inl, dresL, dres, onVal, one]
theorem inl_normal (t : Tmp) (S' : St) : DQ.inl P [.tmp t] K .normal f S' = K (f t) S' := by simp [DQ.inl, dresL, dres, onVal, one]
theorem inl_ret2 (t u : Tmp) (S' : St) : DQ.inl P [.tmp t, .tmp u] K .ret f S' = K (.tup [f t, f u]) S' := by simp [DQ.inl, dresL, dres, onVal, one]
theorem inl_normal2 (t u : Tmp) (S' : St) : DQ.inl P [.tmp t, .tmp u] K .normal f S' = K (.tup [f t, f u]) S' := by simp [DQ.inl, dresL, dres, onVal, one]
theorem inl_ret0 (S' : St) : DQ.inl P [] K .ret f S' = K undefD S' := by simp [DQ.inl, dresL, one]
theorem inl_normal0 (S' : St) : DQ.inl P [] K .normal f S' = K undefD S' := by simp [DQ.inl, dresL, one]
end
theorem inl_cell_normal {P : Program} {f : Fm} {K : D → St → Prop} (x : Tmp) (t : TypeId) (S' : St) : DQ.inl P [.cell x t] K .normal f S' = dcellR P S' t (f x) (fun r => K r S') := onVal_cell x t _
theorem inl_cell_ret {P : Program} {f : Fm} {K : D → St → Prop} (x : Tmp) (t : TypeId) (S' : St) : DQ.inl P [.cell x t] K .ret f S' = dcellR P S' t (f x) (fun r => K r S') := onVal_cell x t _
attribute [go_sem] inl_cell_normal inl_cell_ret
attribute [go_sem] inl_ret inl_normal inl_ret2 inl_normal2 inl_ret0 inl_normal0
def loopN (P : Program) (c : Code) (Q : DQ) : Nat → Fm → St → Prop
  | 0, _, _ => False
  | n + 1, f, S => dwp P c (DQ.then (loopN P c Q n) Q) f S
theorem dloop_fuel {P : Program} {c : Code} {Q : DQ} {f : Fm} {S : St} (n : Nat) (hS : S.WF) (hc : wrOk (fun _ => true) c = true) (h : loopN P c Q n f S) : DLoop (dwp P c) Q f S := by
  refine dloop_down (fun _ => true) hc hS (fun m g T => loopN P c Q m g T) n h fun m g T hT _ hI => ?_
  cases m with
  | zero => exact hI.elim
  | succ m =>
    refine dwp_mono c (fun e f2 S2 hq => ?_) hI
    cases e with
    | normal => exact ⟨m, S2.ob, by omega, fun _ _ h => h, hq⟩
    | exit i => exact hq
    | ret => exact hq
theorem loopN_eq {P : Program} {c : Code} {Q : DQ} {f : Fm} {S : St} (n : Nat) : loopN P c Q (n + 1) f S = dwp P c (DQ.then (loopN P c Q n) Q) f S := Eq.trans (Eq.refl _) (Eq.refl _)
end Go.Proofs.YtbcabejdchkpmaaGreatDoor

namespace Go.Proofs.YtbcabejdchkpmaaGreatDoor
open Go.RowKit
def IsU64 (n : Nat) : Prop := n < 18446744073709551616
def IsI64 (n : Int) : Prop := -9223372036854775808 ≤ n ∧ n < 9223372036854775808
theorem wrap_u64 (n : Nat) (h : IsU64 n) : IntKind.u64.wrap (n : Int) = n := by
  unfold IsU64 at h
  simp only [IntKind.wrap_u64]
  omega
theorem or80' : ∀ x : Fin 256, bits BinOp.or IntKind.u8 (x.val : Int) 128 = ((x.val % 128 + 128 : Nat) : Int) := by decide +kernel
theorem or80 (k : Nat) : bits BinOp.or IntKind.u8 ((k : Int) % 256) 128 = ((k % 128 + 128 : Nat) : Int) := by
  have h := or80' ⟨k % 256, by omega⟩
  simp only at h
  rw [show ((k : Int) % 256) = ((k % 256 : Nat) : Int) from by omega, h]
  omega
theorem xor_zig (n : Int) (h : IsI64 n) : bits BinOp.xor IntKind.u64 (IntKind.u64.wrap (IntKind.u64.wrap n * 2)) (IntKind.u64.wrap (n / 9223372036854775808)) = (zig n : Int) := by
  unfold IsI64 at h
  show IntKind.u64.wrap ((BitVec.ofInt 64 _ ^^^ BitVec.ofInt 64 _).toNat : Int) = _
  simp only [IntKind.wrap_u64]
  unfold zig
  by_cases h0 : n < 0
  · rw [if_pos h0, show n / 9223372036854775808 % 18446744073709551616 = 18446744073709551615 from by omega]
    rw [show BitVec.ofInt 64 18446744073709551615 = BitVec.allOnes 64 from by decide, BitVec.xor_allOnes, BitVec.toNat_not, BitVec.toNat_ofInt]
    omega
  · rw [if_neg h0, show n / 9223372036854775808 % 18446744073709551616 = 0 from by omega]
    rw [show BitVec.ofInt 64 0 = 0#64 from by decide, BitVec.xor_zero, BitVec.toNat_ofInt]
    omega
theorem zig_u64 (n : Int) (h : IsI64 n) : IsU64 (zig n) := by unfold IsI64 at h; unfold IsU64 zig; split <;> omega
section
variable {P : Program} {t : TypeId} {x y : Operand}
theorem bin_or (k : IntKind) (a b : Int) : dbin P .or t x y (.v (.int k a)) (.v (.int k b)) = some (True, .v (.int k (bits .or k a b))) := by
  simp [dbin, eqGuard, binOp, intBits_or, pureRun_bind, pureRun_pure]
theorem bin_xor (k : IntKind) (a b : Int) : dbin P .xor t x y (.v (.int k a)) (.v (.int k b)) = some (True, .v (.int k (bits .xor k a b))) := by
  simp [dbin, eqGuard, binOp, intBits_xor, pureRun_bind, pureRun_pure]
theorem bin_andNot (k : IntKind) (a b : Int) : dbin P .andNot t x y (.v (.int k a)) (.v (.int k b)) = some (True, .v (.int k (bits .andNot k a b))) := by
  simp [dbin, eqGuard, binOp, intBits_andNot, pureRun_bind, pureRun_pure]
theorem bin_shr7 (a : Nat) : dbin P .shr t x y (.v (.int .u64 a)) (.v (.int .u64 7)) = some (True, .v (.int .u64 ((a / 128 : Nat) : Int))) := by
  simp [dbin, eqGuard, binOp, shift_shr .u64 .u64 (a : Int) 7 (by omega) (by decide), pureRun_bind, pureRun_pure]
theorem bin_shr63 (a : Int) : dbin P .shr t x y (.v (.int .i64 a)) (.v (.int .u64 63)) = some (True, .v (.int .i64 (a / 9223372036854775808))) := by
  simp [dbin, eqGuard, binOp, shift_shr .i64 .u64 a 63 (by omega) (by decide), pureRun_bind, pureRun_pure]
theorem bin_shl1 (a : Int) : dbin P .shl t x y (.v (.int .u64 a)) (.v (.int .u64 1)) = some (True, .v (.int .u64 (IntKind.u64.wrap (a * 2)))) := by
  simp [dbin, eqGuard, binOp, Op.shift, IntKind.bits, pureRun_bind, pureRun_pure]
end
theorem cv_u64u8 (n : Int) : pureRun Tryz.prog (convert 54 5 (.int .u64 n)) = some (.int .u8 (IntKind.u8.wrap n)) := by kernel_rfl
theorem cv_i64u64 (n : Int) : pureRun Tryz.prog (convert 3 54 (.int .i64 n)) = some (.int .u64 (IntKind.u64.wrap n)) := by kernel_rfl
theorem cv_u64i64 (n : Int) : pureRun Tryz.prog (convert 54 3 (.int .u64 n)) = some (.int .i64 (IntKind.i64.wrap n)) := by kernel_rfl
theorem cv_u8u64 (n : Int) : pureRun Tryz.prog (convert 5 54 (.int .u8 n)) = some (.int .u64 (IntKind.u64.wrap n)) := by kernel_rfl
theorem cv_i64u8 (n : Int) : pureRun Tryz.prog (convert 3 5 (.int .i64 n)) = some (.int .u8 (IntKind.u8.wrap n)) := by kernel_rfl
theorem u8T_u8 : u8T Tryz.prog 5 = true := by kernel_rfl
attribute [go_sem] u8T_u8
attribute [go_sem] bin_or bin_xor bin_andNot bin_shr7 bin_shr63 bin_shl1 cv_u64u8 cv_i64u64 cv_u64i64 cv_u8u64 cv_i64u8
def WAt (k : Nat) (bs : List UInt8) (T : St) : Prop := ∃ own, T.ob k = some (.box 44 [.sl own (bs.map bD)]) ∧ ((own = .full ∧ bs = []) ∨ ∃ g, own = .row g ∧ k < g ∧ T.ob g = some (.row 5 bs.length))
structure WFr (k : Nat) (S T : St) : Prop where
  next : S.next ≤ T.next
  ob : ∀ j o, (j < k ∨ (j ≠ k ∧ ∃ t cs, o = .box t cs)) → S.ob j = some o → T.ob j = some o
theorem WFr.box {k : Nat} {S T : St} (h : WFr k S T) (j : Nat) (t : TypeId) (cs : List D) (hj : j ≠ k) (e : S.ob j = some (.box t cs)) : T.ob j = some (.box t cs) := h.ob j _ (.inr ⟨hj, t, cs, rfl⟩) e
theorem WFr.of_keep {k : Nat} {S T : St} (hn : S.next ≤ T.next) (h : ∀ j o, S.ob j = some o → T.ob j = some o) : WFr k S T := ⟨hn, fun j o _ e => h j o e⟩
theorem WFr.refl (k : Nat) (S : St) : WFr k S S := ⟨Nat.le_refl _, fun _ _ _ h => h⟩
theorem WFr.trans {k : Nat} {A B C : St} (h : WFr k A B) (g : WFr k B C) : WFr k A C := ⟨Nat.le_trans h.next g.next, fun j o hj e => g.ob j o hj (h.ob j o hj e)⟩
theorem wd_bD (l : List UInt8) : ∀ d ∈ l.map bD, d.width = szOf Tryz.prog 5 := by
  intro d hd
  obtain ⟨b, _, rfl⟩ := List.mem_map.1 hd
  exact Eq.trans rfl (by kernel_rfl : 1 = szOf Tryz.prog 5)
theorem dapp_bytes {S : St} {ty : TypeId} {own own2 : Own} {bs xs : List UInt8} {K : D → St → Prop} (h : (own = .full ∧ bs = []) ∨ ∃ g, own = .row g ∧ S.ob g = some (.row 5 bs.length)) (hl : bs.length + xs.length ≤ 1099511627776)
    (k : K (.sl (.row S.next) ((bs ++ xs).map bD)) (S.grow own 5 (bs.length + xs.length))) : dapp Tryz.prog S 29 29 ty (.sl own (bs.map bD)) (.sl own2 (xs.map bD)) K := by
  refine dapp_row ?_
  have he : elT Tryz.prog 29 = some 5 := by kernel_rfl
  have hb : bytesOf Tryz.prog 5 = 1 := by kernel_rfl
  have hz : zeroT Tryz.prog 5 = true := by kernel_rfl
  simp only [dappend, he, hz, hb, List.length_map, ← List.map_append, true_and, Option.isSome_some]
  refine ⟨wd_bD bs, wd_bD xs, ?_, by omega, by omega, k⟩
  rcases h with ⟨rfl, rfl⟩ | ⟨g, rfl, h⟩
  · trivial
  · exact h
set_option maxRecDepth 200000 in
set_option maxHeartbeats 4000000 in
theorem raw_w {S : St} {k : Nat} {bs : List UInt8} (own2 : Own) (xs : List UInt8) (hk : k < S.next) (h : WAt k bs S) (hl : bs.length + xs.length ≤ 1099511627776) : DCalls Tryz.prog 53 [.loc k 0, .sl own2 (xs.map bD)] S fun d T => d = undefD ∧ WAt k (bs ++ xs) T ∧ WFr k S T := by
  obtain ⟨own, h1, h2⟩ := h
  refine dcalls_inline mixed Tryz.func53 rfl (fun _ _ => by kernel_rfl) (rs := []) rfl (by kernel_rfl) (fun hS => ?_)
  (simp (disch := first | decide | omega | (simp only [nx]; first | done | omega)) only [go_sem, h1]; (repeat with_reducible refine aI ?_))
  have hk2 : (k = S.next) = False := by simp; omega
  rcases h2 with ⟨rfl, rfl⟩ | ⟨g, rfl, hg, h2⟩
  · refine dapp_bytes (.inl ⟨rfl, rfl⟩) (by omega) ?_
    (simp (disch := first | decide | omega | (simp only [nx]; first | done | omega)) only [go_sem, hk2, h1]; (repeat with_reducible refine aI ?_))
    refine ⟨⟨.row S.next, by simp [St.set], .inr ⟨S.next, rfl, by omega, ?_⟩⟩, ⟨by simp [St.set, St.grow, St.leave, St.add], fun j o hj e => ?_⟩⟩
    · simp [St.grow, St.leave, St.add, St.set, Ne.symm (show k ≠ S.next by omega)]
    · have hlt := hS.lt e
      have hj : j ≠ k := by rcases hj with h | h; omega; exact h.1
      simp [St.grow, St.leave, St.add, St.set, hj, show j ≠ S.next by omega, e]
  · have hkg : (k = g) = False := by simp; omega
    refine dapp_bytes (.inr ⟨g, rfl, h2⟩) (by omega) ?_
    (simp (disch := first | decide | omega | (simp only [nx]; first | done | omega)) only [go_sem, hk2, hkg, h1]; (repeat with_reducible refine aI ?_))
    refine ⟨⟨.row S.next, by simp [St.set], .inr ⟨S.next, rfl, by omega, ?_⟩⟩, ⟨by simp [St.set, St.grow, St.leave, St.add, St.drop], fun j o hj e => ?_⟩⟩
    · simp [St.grow, St.leave, St.add, St.set, St.drop, Ne.symm (show k ≠ S.next by omega)]
    · have hlt := hS.lt e
      have hjg : j ≠ g := fun e2 => by
        rcases hj with h | ⟨_, t, cs, rfl⟩
        · omega
        · rw [e2, h2] at e; cases e
      have hj : j ≠ k := by rcases hj with h | h; omega; exact h.1
      simp [St.grow, St.leave, St.add, St.set, St.drop, hj, hjg, show j ≠ S.next by omega, e]
theorem WAt.box {k : Nat} {bs : List UInt8} {S T : St} (h : WAt k bs S) (hn : S.next ≤ T.next) (hS : S.WF) (hb : ∀ j o, S.ob j = some o → T.ob j = some o) : WAt k bs T := by
  obtain ⟨own, h1, h2⟩ := h
  refine ⟨own, hb _ _ h1, h2.imp id fun ⟨g, h3, h4, h5⟩ => ⟨g, h3, h4, hb _ _ h5⟩⟩
theorem add_keep {S : St} (hS : S.WF) (o : Ob) : ∀ j o', S.ob j = some o' → (S.add o).ob j = some o' := by
  intro j o' h
  have hlt := hS.lt h
  simp [St.add, show j ≠ S.next by omega, h]
set_option maxRecDepth 200000 in
set_option maxHeartbeats 4000000 in
theorem byte_w {S : St} {k : Nat} {bs : List UInt8} (b : UInt8) (hk : k < S.next) (h : WAt k bs S) (hl : bs.length + 1 ≤ 1099511627776) : DCalls Tryz.prog 29 [.loc k 0, bD b] S fun d T => d = undefD ∧ WAt k (bs ++ [b]) T ∧ WFr k S T := by
  refine dcalls_inline mixed Tryz.func29 rfl (fun _ _ => by kernel_rfl) (rs := []) rfl (by kernel_rfl) (fun hS => ?_)
  (simp (disch := first | decide | omega | (simp only [nx]; first | done | omega)) only [go_sem, show bD b = .v (.int .u8 b.toNat) from rfl]; (repeat with_reducible refine aI ?_))
  refine (raw_w .full [b] hk h hl).mono ?_
  rintro _ T ⟨rfl, h1, h2⟩
  (simp (disch := first | decide | omega | (simp only [nx]; first | done | omega)) only [go_sem]; (repeat with_reducible refine aI ?_))
  exact h2
theorem bD1 (n : Nat) (h : n < 256) : [D.v (.int .u8 (n : Int))] = [b8 n].map bD := by
  simp [bD, b8_toNat n h]
theorem wrap_u8 (n : Nat) : IntKind.u8.wrap (n : Int) = (n : Int) % 256 := IntKind.wrap_u8 _
set_option maxRecDepth 200000 in
set_option maxHeartbeats 4000000 in
theorem number_w {S : St} {k : Nat} {bs : List UInt8} (n : Nat) (hn : IsU64 n) (hk : k < S.next) (h : WAt k bs S) (hl : bs.length + 10 ≤ 1099511627776) : DCalls Tryz.prog 33 [.loc k 0, .v (.int .u64 (n : Int))] S fun d T => d = undefD ∧ WAt k (bs ++ numB n) T ∧ WFr k S T := by
  refine dcalls_inline mixed Tryz.func33 rfl (fun _ _ => by kernel_rfl) (rs := []) rfl (by kernel_rfl) (fun hS => ?_)
  (simp (disch := first | decide | omega | (simp only [nx]; first | done | omega)) only [go_sem]; (repeat with_reducible refine aI ?_))
  have hnl := numB_length_le n hn
  refine dloop_down (fun t => List.contains [1, 4, 5, 6, 7, 8, 9, 10, 11, 12, 13] t) (by kernel_rfl) hS (fun m g T => ∃ done, done ++ numB m = numB n ∧ IsU64 m ∧ g 1 = .v (.int .u64 (m : Int)) ∧ WAt k (bs ++ done) T ∧ WFr k S T) n ⟨[], rfl, hn, rfl, by rw [List.append_nil]; exact h, WFr.refl k S⟩ ?_
  rintro m g T hT hg ⟨done, hd, hm, q1, hW, hF⟩
  have q0 : g 0 = .loc k 0 := hg 0 rfl
  have hkT : k < T.next := Nat.lt_of_lt_of_le hk hF.next
  have hdl : (bs ++ done).length + 1 ≤ 1099511627776 := by
    have := congrArg List.length hd
    rw [List.length_append] at this
    have := numB_pos m
    rw [List.length_append]; omega
  by_cases hlt : m < 128
  · have b1 : decide ((128 : Int) ≤ (m : Int)) = false := by simp; omega
    have w8 : IntKind.u8.wrap (m : Int) = (m : Int) := by rw [wrap_u8]; omega
    (simp (disch := first | decide | omega | (simp only [nx]; first | done | omega)) only [go_sem, q0, q1, b1, w8]; (repeat with_reducible refine aI ?_))
    rw [bD1 m (by omega)]
    refine (raw_w .full [b8 m] hkT hW hdl).mono ?_
    rintro _ T1 ⟨rfl, h1, h2⟩
    (simp (disch := first | decide | omega | (simp only [nx]; first | done | omega)) only [go_sem]; (repeat with_reducible refine aI ?_))
    refine ⟨?_, hF.trans h2⟩
    rw [← hd, numB_lt m hlt, ← List.append_assoc]; exact h1
  · have b1 : decide ((128 : Int) ≤ (m : Int)) = true := by simp; omega
    (simp (disch := first | decide | omega | (simp only [nx]; first | done | omega)) only [go_sem, q0, q1, b1, wrap_u8, or80]; (repeat with_reducible refine aI ?_))
    rw [bD1 (m % 128 + 128) (by omega)]
    refine (raw_w .full [b8 (m % 128 + 128)] hkT hW hdl).mono ?_
    rintro _ T1 ⟨rfl, h1, h2⟩
    (simp (disch := first | decide | omega | (simp only [nx]; first | done | omega)) only [go_sem, q0, q1]; (repeat with_reducible refine aI ?_))
    refine ⟨m / 128, T1.ob, by omega, fun _ _ h => h, done ++ [b8 (m % 128 + 128)], ?_, by unfold IsU64 at *; omega, ?_, by rw [← List.append_assoc]; exact h1, hF.trans h2⟩
    · rw [List.append_assoc, ← hd, numB_ge m hlt]; rfl
    · (first | (simp (disch := first | decide | omega | (simp only [nx]; first | done | omega)) only [go_sem]; first | done | rfl) | rfl)
set_option maxRecDepth 200000 in
set_option maxHeartbeats 4000000 in
theorem bytes_w {S : St} {k : Nat} {bs : List UInt8} (own2 : Own) (xs : List UInt8) (hk : k < S.next) (h : WAt k bs S) (hl : bs.length + xs.length + 10 ≤ 1099511627776) : DCalls Tryz.prog 54 [.loc k 0, .sl own2 (xs.map bD)] S fun d T => d = undefD ∧ WAt k (bs ++ (numB xs.length ++ xs)) T ∧ WFr k S T := by
  refine dcalls_inline mixed Tryz.func54 rfl (fun _ _ => by kernel_rfl) (rs := []) rfl (by kernel_rfl) (fun hS => ?_)
  have hu : IsU64 xs.length := by unfold IsU64; omega
  (simp (disch := first | decide | omega | (simp only [nx]; first | done | omega)) only [go_sem, wrap_u64 xs.length hu]; (repeat with_reducible refine aI ?_))
  refine (number_w xs.length hu hk h (by omega)).mono ?_
  rintro _ T ⟨rfl, h1, h2⟩
  (simp (disch := first | decide | omega | (simp only [nx]; first | done | omega)) only [go_sem]; (repeat with_reducible refine aI ?_))
  have := numB_length_le xs.length hu
  refine (raw_w own2 xs (Nat.lt_of_lt_of_le hk h2.next) h1 (by rw [List.length_append]; omega)).mono ?_
  rintro _ T1 ⟨rfl, h3, h4⟩
  (simp (disch := first | decide | omega | (simp only [nx]; first | done | omega)) only [go_sem]; (repeat with_reducible refine aI ?_))
  refine ⟨by rw [← List.append_assoc]; exact h3, h2.trans h4⟩
set_option maxRecDepth 200000 in
set_option maxHeartbeats 4000000 in
theorem text_w {S : St} {k : Nat} {bs : List UInt8} (s : ByteArray) (hk : k < S.next) (h : WAt k bs S) (hl : bs.length + s.data.toList.length + 10 ≤ 1099511627776) : DCalls Tryz.prog 32 [.loc k 0, .v (.string s)] S fun d T => d = undefD ∧ WAt k (bs ++ (numB s.data.toList.length ++ s.data.toList)) T ∧ WFr k S T := by
  refine dcalls_inline mixed Tryz.func32 rfl (fun _ _ => by kernel_rfl) (rs := []) rfl (by kernel_rfl) (fun hS => ?_)
  (simp (disch := first | decide | omega | (simp only [nx]; first | done | omega)) only [go_sem]; (repeat with_reducible refine aI ?_))
  refine (bytes_w .no s.data.toList hk h hl).mono ?_
  rintro _ T ⟨rfl, h1, h2⟩
  (simp (disch := first | decide | omega | (simp only [nx]; first | done | omega)) only [go_sem]; (repeat with_reducible refine aI ?_))
  exact h2
set_option maxRecDepth 200000 in
set_option maxHeartbeats 4000000 in
theorem bool_w {S : St} {k : Nat} {bs : List UInt8} (b : Bool) (hk : k < S.next) (h : WAt k bs S) (hl : bs.length + 1 ≤ 1099511627776) : DCalls Tryz.prog 30 [.loc k 0, .v (.bool b)] S fun d T => d = undefD ∧ WAt k (bs ++ [if b then 1 else 0]) T ∧ WFr k S T := by
  refine dcalls_inline mixed Tryz.func30 rfl (fun _ _ => by kernel_rfl) (rs := []) rfl (by kernel_rfl) (fun hS => ?_)
  cases b
  · (simp (disch := first | decide | omega | (simp only [nx]; first | done | omega)) only [go_sem]; (repeat with_reducible refine aI ?_))
    refine (raw_w .full [0] hk h (by simpa using hl)).mono ?_
    rintro _ T ⟨rfl, h1, h2⟩
    (simp (disch := first | decide | omega | (simp only [nx]; first | done | omega)) only [go_sem]; (repeat with_reducible refine aI ?_))
    exact ⟨h1, h2⟩
  · (simp (disch := first | decide | omega | (simp only [nx]; first | done | omega)) only [go_sem]; (repeat with_reducible refine aI ?_))
    refine (raw_w .full [1] hk h (by simpa using hl)).mono ?_
    rintro _ T ⟨rfl, h1, h2⟩
    (simp (disch := first | decide | omega | (simp only [nx]; first | done | omega)) only [go_sem]; (repeat with_reducible refine aI ?_))
    exact h2
set_option maxRecDepth 200000 in
set_option maxHeartbeats 4000000 in
theorem int_w {S : St} {k : Nat} {bs : List UInt8} (n : Int) (hn : IsI64 n) (hk : k < S.next) (h : WAt k bs S) (hl : bs.length + 10 ≤ 1099511627776) : DCalls Tryz.prog 31 [.loc k 0, .v (.int .i64 n)] S fun d T => d = undefD ∧ WAt k (bs ++ numB (zig n)) T ∧ WFr k S T := by
  refine dcalls_inline mixed Tryz.func31 rfl (fun _ _ => by kernel_rfl) (rs := []) rfl (by kernel_rfl) (fun hS => ?_)
  (simp (disch := first | decide | omega | (simp only [nx]; first | done | omega)) only [go_sem, xor_zig n hn]; (repeat with_reducible refine aI ?_))
  refine (number_w (zig n) (zig_u64 n hn) hk h hl).mono ?_
  rintro _ T ⟨rfl, h1, h2⟩
  (simp (disch := first | decide | omega | (simp only [nx]; first | done | omega)) only [go_sem]; (repeat with_reducible refine aI ?_))
  exact h2
set_option maxRecDepth 200000 in
set_option maxHeartbeats 4000000 in
theorem out_w {S : St} {k : Nat} {bs : List UInt8} (h : WAt k bs S) (hl : bs.length ≤ 1099511627776) : DCalls Tryz.prog 17 [.loc k 0] S fun d T => ∃ o, d = .sl o (bs.map bD) ∧ WAt k bs T ∧ WFr k S T := by
  obtain ⟨own, h1, h2⟩ := h
  refine dcalls_inline mixed Tryz.func17 rfl (fun _ _ => by kernel_rfl) (rs := [.tmp 2]) rfl (by kernel_rfl) (fun hS => ?_)
  (simp (disch := first | decide | omega | (simp only [nx]; first | done | omega)) only [go_sem, h1]; (repeat with_reducible refine aI ?_))
  refine dapp_bytes (bs := []) (.inl ⟨rfl, rfl⟩) (by simpa using hl) ?_
  (simp (disch := first | decide | omega | (simp only [nx]; first | done | omega)) only [go_sem]; (repeat with_reducible refine aI ?_))
  have hob : ∀ j o, S.ob j = some o → (S.grow .full 5 bs.length).ob j = some o := fun j o e => by
    have hlt := hS.lt e
    simp [St.grow, St.leave, St.add, show j ≠ S.next by omega, e]
  exact ⟨_, rfl, ⟨own, hob _ _ h1, h2.imp id fun ⟨g, h3, h4, h5⟩ => ⟨g, h3, h4, hob _ _ h5⟩⟩, WFr.of_keep (by simp [St.grow, St.leave, St.add]) hob⟩
end Go.Proofs.YtbcabejdchkpmaaGreatDoor

namespace Go.Proofs.YtbcabejdchkpmaaGreatDoor
open Go.RowKit
theorem bD_eq (b : UInt8) : bD b = .v (.int .u8 (b.toNat : Int)) := rfl
theorem andNot80' : ∀ x : Fin 256, bits BinOp.andNot IntKind.u8 (x.val : Int) 128 = ((x.val % 128 : Nat) : Int) := by decide +kernel
theorem digit_put (m c k : Nat) (hm : m < 128 ^ k) (hk : k ≤ 9) (hk9 : k = 9 → c ≤ 1) (hc : c < 256) :
    bits BinOp.or IntKind.u64 (m : Int) (IntKind.u64.wrap (IntKind.u64.wrap (bits BinOp.andNot IntKind.u8 (c : Int) 128) * 2 ^ (7 * k))) = ((m + c % 128 * 128 ^ k : Nat) : Int) := by
  have h1 := andNot80' ⟨c, hc⟩
  simp only at h1
  have e2 : (2 : Nat) ^ (7 * k) = 128 ^ k := by rw [Nat.pow_mul]
  have hu : c % 128 * 128 ^ k < 18446744073709551616 ∧ 128 ^ k ≤ 9223372036854775808 := by
    have h3 : (128 : Nat) ^ k ≤ 128 ^ 9 := Nat.pow_le_pow_right (by omega) hk
    simp at h3
    refine ⟨?_, h3⟩
    by_cases h9 : k = 9
    · subst h9
      have := hk9 rfl
      have h4 : c % 128 * 128 ^ 9 ≤ 1 * 128 ^ 9 := Nat.mul_le_mul_right _ (by omega)
      simp at h4 ⊢
      omega
    · have h5 : (128 : Nat) ^ k ≤ 128 ^ 8 := Nat.pow_le_pow_right (by omega) (by omega)
      have h4 : c % 128 * 128 ^ k ≤ 127 * 128 ^ 8 := Nat.mul_le_mul (by omega) h5
      simp at h4
      omega
  rw [h1, wrap_u64 (c % 128) (by unfold IsU64; omega)]
  have e3 : ((c % 128 : Nat) : Int) * 2 ^ (7 * k) = ((c % 128 * 128 ^ k : Nat) : Int) := by rw [← e2]; push_cast; rfl
  rw [e3, wrap_u64 _ hu.1, bits_or_u64_nat _ _ (by omega) hu.1]
  congr 1
  rw [Nat.or_comm, ← e2, Nat.mul_comm, ← Nat.two_pow_add_eq_or_of_lt (by rw [e2]; exact hm)]
  omega
theorem bin_shl7 {P : Program} {t : TypeId} {x y : Operand} (a : Int) (k : Nat) (hk : k ≤ 9) : dbin P .shl t x y (.v (.int .u64 a)) (.v (.int .i64 ((7 * k : Nat) : Int))) = some (True, .v (.int .u64 (IntKind.u64.wrap (a * 2 ^ (7 * k))))) := by
  have h1 : ¬ ((7 * k : Nat) : Int) < 0 := by omega
  have h2 : min (7 * k) (IntKind.bits .u64) = 7 * k := by simp only [IntKind.bits]; omega
  have h3 : (((7 * k : Nat) : Int)).toNat = 7 * k := by omega
  simp only [dbin, eqGuard, binOp, Op.shift, h1, h3, h2, pureRun_bind, pureRun_pure, if_false]
  rfl
section
variable {P : Program} {f : Fm} {S : St}
theorem pfin_ret3 (t u v : Tmp) (S' : St) (d : D) : DQ.pfin P [.tmp t, .tmp u, .tmp v] S d .ret f S' = PFin S S' (.tup [f t, f u, f v]) d := by
  simp [DQ.pfin, dresL, dres, onVal, one]
theorem pfin_normal3 (t u v : Tmp) (S' : St) (d : D) : DQ.pfin P [.tmp t, .tmp u, .tmp v] S d .normal f S' = PFin S S' (.tup [f t, f u, f v]) d := by
  simp [DQ.pfin, dresL, dres, onVal, one]
end
attribute [go_sem] pfin_ret3 pfin_normal3
def accN (l : List UInt8) : Nat → Nat
  | 0 => 0
  | i + 1 => accN l i + (l.getD i 0).toNat % 128 * 128 ^ i
def numD : Option (Nat × Nat) → D
  | some (n, s) => .tup [.v (.int .u64 (n : Int)), .v (.int .i64 (s : Int)), .v (.int .i64 0)]
  | none => .tup [.v (.int .u64 0), .v (.int .i64 0), .v (.int .i64 2)]
theorem numD_closed (o : Option (Nat × Nat)) : (numD o).closed := by
  cases o <;> simp [numD, D.closed, D.all, allL]
theorem drop_cons' {α : Type} (l : List α) (k : Nat) (h : k < l.length) : l.drop k = l[k] :: l.drop (k + 1) := by rw [List.drop_eq_getElem_cons h]
set_option maxRecDepth 200000 in
set_option maxHeartbeats 8000000 in
theorem number_d (own : Own) (l : List UInt8) (hl : l.length ≤ 1099511627776) : DPure Tryz.prog 80 [.sl own (l.map bD)] (numD (numP l)) := by
  refine dpure_of_dwp mixed Tryz.func80 rfl (fun _ _ => by kernel_rfl) (rs := [.tmp 2, .tmp 3, .tmp 4]) rfl (by kernel_rfl) (numD_closed _) (fun S hS => ?_)
  (simp (disch := first | decide | omega | (simp only [nx]; first | done | omega)) only [go_sem]; (repeat with_reducible refine aI ?_))
  (refine dloop_st (fun t => List.contains [2, 3, 4, 5, 6, 7, 10, 11, 12, 13, 14, 15, 16, 17, 18, 19, 20, 21, 22, 23, 24, 25, 26, 27, 28, 29, 30, 31, 32, 33, 34, 35, 36, 37, 38, 39, 40, 41, 42, 43, 44] t) (by kernel_rfl) ?_ (l.length) (fun i f => i ≤ l.length ∧ f 5 = .v (.int .u64 (accN l i : Nat)) ∧ f 10 = .v (.int .i64 (i : Nat)) ∧ (numP l = numGo i (accN l i) (l.drop i)) ∧ (accN l i < 128 ^ i) ∧ (i ≤ 10) ∧ (i = 10 → IsU64 (accN l i))) ?_ ?_; (exact (by (repeat' first | assumption | refine St.WF.leave ?_ _ | refine St.WF.add ?_ _ | refine St.WF.set ?_ ?_ _ | refine St.WF.grow ?_ _ _ _ | refine St.WF.keep ?_ ?_ | (first | omega | (simp only [RowOk.lo, nx]; first | done | omega))))); (exact ⟨(by omega), (by (first | (simp (disch := first | decide | omega | (simp only [nx]; first | done | omega)) only [go_sem]; first | done | rfl) | rfl)), (by (first | (simp (disch := first | decide | omega | (simp only [nx]; first | done | omega)) only [go_sem]; first | done | rfl) | rfl)), (by simp [numP, accN]), (by simp [accN]), (by omega), (fun h => by omega)⟩); intro i g tn hn hT hg hI; obtain ⟨le, q5, q10, hp, hm, hk, hu⟩ := hI; have q8 := hg 8 rfl; have q9 := hg 9 rfl; simp (disch := first | decide | omega | (simp only [nx]; first | done | omega)) only [go_sem] at q8 q9; clear hg; have hn' := hn; try simp only [add_next, set_next, grow_next, leave_next, drop_next] at hn')
  by_cases hlt : i < l.length
  · have b1 : decide ((i : Int) < (l.length : Int)) = true := by simp; omega
    have hd := drop_cons' l i hlt
    have hbyte : l[i].toNat < 256 := UInt8.toNat_lt _
    have hacc : accN l (i + 1) = accN l i + l[i].toNat % 128 * 128 ^ i := by rw [accN, List.getD_eq_getElem?_getD, List.getElem?_eq_getElem hlt]; rfl
    by_cases h10 : i = 10
    · have e1 : ((i : Int) == 10) = true := by simp; omega
      (simp (disch := first | decide | omega | (simp only [nx]; first | done | omega)) only [go_sem, q5, q8, q9, q10, b1, e1, bD_eq]; (repeat with_reducible refine aI ?_))
      refine ⟨?_, (by (repeat' first | assumption | exact St.Sub.refl _ | exact RowOk.sub (by assumption) (by assumption) | refine St.Sub.trans ?_ (RowOk.sub (by assumption) (by assumption)) | refine St.Sub.add ?_ ?_ _ | refine St.Sub.set ?_ ?_ ?_ _ | refine St.Sub.keep ?_ ?_ | refine St.WF.leave ?_ _ | refine St.WF.add ?_ _ | refine St.WF.set ?_ ?_ _ | refine St.WF.grow ?_ _ _ _ | refine St.WF.keep ?_ ?_ | (first | omega | (simp only [RowOk.lo, nx]; first | done | omega))))⟩
      rw [hp, hd, numGo, if_pos (.inl h10)]; rfl
    · have e1 : ((i : Int) == 10) = false := by simp; omega
      by_cases h9 : i = 9 ∧ 1 < l[i].toNat
      · have e2 : ((i : Int) == 9) = true := by simp; omega
        have e3 : decide (1 < (l[i].toNat : Int)) = true := by simp; omega
        (simp (disch := first | decide | omega | (simp only [nx]; first | done | omega)) only [go_sem, q5, q8, q9, q10, b1, e1, e2, e3, bD_eq]; (repeat with_reducible refine aI ?_))
        refine ⟨?_, (by (repeat' first | assumption | exact St.Sub.refl _ | exact RowOk.sub (by assumption) (by assumption) | refine St.Sub.trans ?_ (RowOk.sub (by assumption) (by assumption)) | refine St.Sub.add ?_ ?_ _ | refine St.Sub.set ?_ ?_ ?_ _ | refine St.Sub.keep ?_ ?_ | refine St.WF.leave ?_ _ | refine St.WF.add ?_ _ | refine St.WF.set ?_ ?_ _ | refine St.WF.grow ?_ _ _ _ | refine St.WF.keep ?_ ?_ | (first | omega | (simp only [RowOk.lo, nx]; first | done | omega))))⟩
        rw [hp, hd, numGo, if_pos (.inr h9)]; rfl
      · have hg : ¬ (i = 10 ∨ i = 9 ∧ 1 < l[i].toNat) := by omega
        have hdig := digit_put (accN l i) l[i].toNat i hm (by omega) (fun h => by omega) hbyte
        have w7 : IntKind.i64.wrap (7 * (i : Int)) = ((7 * i : Nat) : Int) := by rw [IntWalk.i64_in _ ⟨by omega, by omega⟩]; push_cast; rfl
        have w1 : IntKind.i64.wrap ((i : Int) + 1) = ((i + 1 : Nat) : Int) := IntWalk.i64_in _ ⟨by omega, by omega⟩
        have hs7 : ∀ {t : TypeId} {x y : Operand} (a : Int), dbin Tryz.prog .shl t x y (.v (.int .u64 a)) (.v (.int .i64 ((7 * i : Nat) : Int))) = some (True, .v (.int .u64 (IntKind.u64.wrap (a * 2 ^ (7 * i))))) := fun a => bin_shl7 a i (by omega)
        have hU : accN l (i + 1) < 128 ^ (i + 1) ∧ (i + 1 = 10 → IsU64 (accN l (i + 1))) := by
          rw [hacc]
          refine ⟨?_, fun h => ?_⟩
          · have h2 : l[i].toNat % 128 * 128 ^ i ≤ 127 * 128 ^ i := Nat.mul_le_mul_right _ (by omega)
            rw [Nat.pow_succ]; omega
          · have h5 : i = 9 := by omega
            subst h5
            have h4 : l[9].toNat % 128 * 128 ^ 9 ≤ 1 * 128 ^ 9 := Nat.mul_le_mul_right _ (by omega)
            simp at h4 hm
            unfold IsU64
            omega
        have hcase : ∃ b9 b8 : Bool, ((i : Int) == 9) = b9 ∧ decide (1 < (l[i].toNat : Int)) = b8 ∧ (b9 && b8) = false := ⟨_, _, rfl, rfl, by
          cases h : ((i : Int) == 9)
          · rfl
          · have : ¬ (1 < l[i].toNat) := fun h' => h9 ⟨by have := eq_of_beq h; omega, h'⟩
            simp; omega⟩
        obtain ⟨b9, b8, e2, e3, e4⟩ := hcase
        by_cases hge : 128 ≤ l[i].toNat
        · have g1 : decide ((128 : Int) ≤ (l[i].toNat : Int)) = true := by simp; omega
          have hS : numP l = numGo (i + 1) (accN l (i + 1)) (l.drop (i + 1)) := by rw [hp, hd, numGo, if_neg hg, if_pos hge, hacc]
          cases b9
          · (simp (disch := first | decide | omega | (simp only [nx]; first | done | omega)) only [go_sem, q5, q8, q9, q10, b1, e1, e2, e3, bD_eq, w7, hs7, hdig, g1]; (repeat with_reducible refine aI ?_))
            (refine ⟨by omega, (by (repeat' first | assumption | exact St.Sub.refl _ | exact RowOk.sub (by assumption) (by assumption) | refine St.Sub.trans ?_ (RowOk.sub (by assumption) (by assumption)) | refine St.Sub.add ?_ ?_ _ | refine St.Sub.set ?_ ?_ ?_ _ | refine St.Sub.keep ?_ ?_ | refine St.WF.leave ?_ _ | refine St.WF.add ?_ _ | refine St.WF.set ?_ ?_ _ | refine St.WF.grow ?_ _ _ _ | refine St.WF.keep ?_ ?_ | (first | omega | (simp only [RowOk.lo, nx]; first | done | omega)))), ?_⟩; refine ⟨by omega, ?_, ?_, ?_, ?_, ?_, ?_⟩; all_goals (try (first | (simp (disch := first | decide | omega | (simp only [nx]; first | done | omega)) only [go_sem, w1, hacc]; first | done | rfl) | rfl)))
            · exact hS
            · exact hU.1
            · omega
            · exact hU.2
          · obtain rfl : b8 = false := by simpa using e4
            (simp (disch := first | decide | omega | (simp only [nx]; first | done | omega)) only [go_sem, q5, q8, q9, q10, b1, e1, e2, e3, bD_eq, w7, hs7, hdig, g1]; (repeat with_reducible refine aI ?_))
            (refine ⟨by omega, (by (repeat' first | assumption | exact St.Sub.refl _ | exact RowOk.sub (by assumption) (by assumption) | refine St.Sub.trans ?_ (RowOk.sub (by assumption) (by assumption)) | refine St.Sub.add ?_ ?_ _ | refine St.Sub.set ?_ ?_ ?_ _ | refine St.Sub.keep ?_ ?_ | refine St.WF.leave ?_ _ | refine St.WF.add ?_ _ | refine St.WF.set ?_ ?_ _ | refine St.WF.grow ?_ _ _ _ | refine St.WF.keep ?_ ?_ | (first | omega | (simp only [RowOk.lo, nx]; first | done | omega)))), ?_⟩; refine ⟨by omega, ?_, ?_, ?_, ?_, ?_, ?_⟩; all_goals (try (first | (simp (disch := first | decide | omega | (simp only [nx]; first | done | omega)) only [go_sem, w1, hacc]; first | done | rfl) | rfl)))
            · exact hS
            · exact hU.1
            · omega
            · exact hU.2
        · have g1 : decide ((128 : Int) ≤ (l[i].toNat : Int)) = false := by simp; omega
          by_cases hz : l[i].toNat = 0 ∧ 0 < i
          · have z1 : ((l[i].toNat : Int) == 0) = true := by simp; omega
            have z2 : decide ((0 : Int) < (i : Int)) = true := by simp; omega
            have hR : numP l = none := by rw [hp, hd, numGo, if_neg hg, if_neg hge, if_pos hz]
            rw [hR]
            cases b9
            · (simp (disch := first | decide | omega | (simp only [nx]; first | done | omega)) only [go_sem, q5, q8, q9, q10, b1, e1, e2, e3, bD_eq, w7, hs7, hdig, g1, z1, z2]; (repeat with_reducible refine aI ?_))
              refine ⟨?_, (by (repeat' first | assumption | exact St.Sub.refl _ | exact RowOk.sub (by assumption) (by assumption) | refine St.Sub.trans ?_ (RowOk.sub (by assumption) (by assumption)) | refine St.Sub.add ?_ ?_ _ | refine St.Sub.set ?_ ?_ ?_ _ | refine St.Sub.keep ?_ ?_ | refine St.WF.leave ?_ _ | refine St.WF.add ?_ _ | refine St.WF.set ?_ ?_ _ | refine St.WF.grow ?_ _ _ _ | refine St.WF.keep ?_ ?_ | (first | omega | (simp only [RowOk.lo, nx]; first | done | omega))))⟩
              rfl
            · obtain rfl : b8 = false := by simpa using e4
              (simp (disch := first | decide | omega | (simp only [nx]; first | done | omega)) only [go_sem, q5, q8, q9, q10, b1, e1, e2, e3, bD_eq, w7, hs7, hdig, g1, z1, z2]; (repeat with_reducible refine aI ?_))
              refine ⟨?_, (by (repeat' first | assumption | exact St.Sub.refl _ | exact RowOk.sub (by assumption) (by assumption) | refine St.Sub.trans ?_ (RowOk.sub (by assumption) (by assumption)) | refine St.Sub.add ?_ ?_ _ | refine St.Sub.set ?_ ?_ ?_ _ | refine St.Sub.keep ?_ ?_ | refine St.WF.leave ?_ _ | refine St.WF.add ?_ _ | refine St.WF.set ?_ ?_ _ | refine St.WF.grow ?_ _ _ _ | refine St.WF.keep ?_ ?_ | (first | omega | (simp only [RowOk.lo, nx]; first | done | omega))))⟩
              rfl
          · have hR : numP l = some (accN l (i + 1), i + 1) := by rw [hp, hd, numGo, if_neg hg, if_neg hge, if_neg hz, hacc]
            rw [hR, hacc]
            by_cases hz0 : l[i].toNat = 0
            · have z1 : ((l[i].toNat : Int) == 0) = true := by simp; omega
              have z2 : decide ((0 : Int) < (i : Int)) = false := by simp; omega
              cases b9
              · (simp (disch := first | decide | omega | (simp only [nx]; first | done | omega)) only [go_sem, q5, q8, q9, q10, b1, e1, e2, e3, bD_eq, w7, hs7, hdig, g1, z1, z2, w1]; (repeat with_reducible refine aI ?_))
                refine ⟨?_, (by (repeat' first | assumption | exact St.Sub.refl _ | exact RowOk.sub (by assumption) (by assumption) | refine St.Sub.trans ?_ (RowOk.sub (by assumption) (by assumption)) | refine St.Sub.add ?_ ?_ _ | refine St.Sub.set ?_ ?_ ?_ _ | refine St.Sub.keep ?_ ?_ | refine St.WF.leave ?_ _ | refine St.WF.add ?_ _ | refine St.WF.set ?_ ?_ _ | refine St.WF.grow ?_ _ _ _ | refine St.WF.keep ?_ ?_ | (first | omega | (simp only [RowOk.lo, nx]; first | done | omega))))⟩
                rfl
              · obtain rfl : b8 = false := by simpa using e4
                (simp (disch := first | decide | omega | (simp only [nx]; first | done | omega)) only [go_sem, q5, q8, q9, q10, b1, e1, e2, e3, bD_eq, w7, hs7, hdig, g1, z1, z2, w1]; (repeat with_reducible refine aI ?_))
                refine ⟨?_, (by (repeat' first | assumption | exact St.Sub.refl _ | exact RowOk.sub (by assumption) (by assumption) | refine St.Sub.trans ?_ (RowOk.sub (by assumption) (by assumption)) | refine St.Sub.add ?_ ?_ _ | refine St.Sub.set ?_ ?_ ?_ _ | refine St.Sub.keep ?_ ?_ | refine St.WF.leave ?_ _ | refine St.WF.add ?_ _ | refine St.WF.set ?_ ?_ _ | refine St.WF.grow ?_ _ _ _ | refine St.WF.keep ?_ ?_ | (first | omega | (simp only [RowOk.lo, nx]; first | done | omega))))⟩
                rfl
            · have z1 : ((l[i].toNat : Int) == 0) = false := by simp; omega
              cases b9
              · (simp (disch := first | decide | omega | (simp only [nx]; first | done | omega)) only [go_sem, q5, q8, q9, q10, b1, e1, e2, e3, bD_eq, w7, hs7, hdig, g1, z1, w1]; (repeat with_reducible refine aI ?_))
                refine ⟨?_, (by (repeat' first | assumption | exact St.Sub.refl _ | exact RowOk.sub (by assumption) (by assumption) | refine St.Sub.trans ?_ (RowOk.sub (by assumption) (by assumption)) | refine St.Sub.add ?_ ?_ _ | refine St.Sub.set ?_ ?_ ?_ _ | refine St.Sub.keep ?_ ?_ | refine St.WF.leave ?_ _ | refine St.WF.add ?_ _ | refine St.WF.set ?_ ?_ _ | refine St.WF.grow ?_ _ _ _ | refine St.WF.keep ?_ ?_ | (first | omega | (simp only [RowOk.lo, nx]; first | done | omega))))⟩
                rfl
              · obtain rfl : b8 = false := by simpa using e4
                (simp (disch := first | decide | omega | (simp only [nx]; first | done | omega)) only [go_sem, q5, q8, q9, q10, b1, e1, e2, e3, bD_eq, w7, hs7, hdig, g1, z1, w1]; (repeat with_reducible refine aI ?_))
                refine ⟨?_, (by (repeat' first | assumption | exact St.Sub.refl _ | exact RowOk.sub (by assumption) (by assumption) | refine St.Sub.trans ?_ (RowOk.sub (by assumption) (by assumption)) | refine St.Sub.add ?_ ?_ _ | refine St.Sub.set ?_ ?_ ?_ _ | refine St.Sub.keep ?_ ?_ | refine St.WF.leave ?_ _ | refine St.WF.add ?_ _ | refine St.WF.set ?_ ?_ _ | refine St.WF.grow ?_ _ _ _ | refine St.WF.keep ?_ ?_ | (first | omega | (simp only [RowOk.lo, nx]; first | done | omega))))⟩
                rfl
  · have b1 : decide ((i : Int) < (l.length : Int)) = false := by simp; omega
    have hR : numP l = none := by rw [hp, List.drop_eq_nil_of_le (by omega)]; rfl
    rw [hR]
    (simp (disch := first | decide | omega | (simp only [nx]; first | done | omega)) only [go_sem, q5, q8, q9, q10, b1]; (repeat with_reducible refine aI ?_))
    refine ⟨?_, (by (repeat' first | assumption | exact St.Sub.refl _ | exact RowOk.sub (by assumption) (by assumption) | refine St.Sub.trans ?_ (RowOk.sub (by assumption) (by assumption)) | refine St.Sub.add ?_ ?_ _ | refine St.Sub.set ?_ ?_ ?_ _ | refine St.Sub.keep ?_ ?_ | refine St.WF.leave ?_ _ | refine St.WF.add ?_ _ | refine St.WF.set ?_ ?_ _ | refine St.WF.grow ?_ _ _ _ | refine St.WF.keep ?_ ?_ | (first | omega | (simp only [RowOk.lo, nx]; first | done | omega))))⟩
    rfl
end Go.Proofs.YtbcabejdchkpmaaGreatDoor

namespace Go.Proofs.YtbcabejdchkpmaaGreatDoor
open Go.RowKit
section
variable {P : Program} {t : TypeId} {x : Operand}
theorem bin_nil_eql (c : Value) : dbin Tryz.prog .eql 31 x (.const c) (.v .nilIface) (.v .nilIface) = some (True, .v (.bool true)) := by cases x <;> kernel_rfl
theorem bin_nil_neq (c : Value) : dbin Tryz.prog .neq 31 x (.const c) (.v .nilIface) (.v .nilIface) = some (True, .v (.bool false)) := by cases x <;> kernel_rfl
end
attribute [go_sem] bin_nil_eql bin_nil_neq
def RAt (k : Nat) (l : List UInt8) (i : Nat) (T : St) : Prop := ∃ own, T.ob k = some (.box 80 [.sl own (l.map bD), .v (.int .i64 (i : Int)), .v .nilIface])
theorem RAt.keep {k : Nat} {l : List UInt8} {i : Nat} {S T : St} (h : RAt k l i S) (hb : ∀ j o, S.ob j = some o → T.ob j = some o) : RAt k l i T := by
  obtain ⟨own, h⟩ := h
  exact ⟨own, hb _ _ h⟩
structure RFr (k : Nat) (S T : St) : Prop where
  next : S.next ≤ T.next
  ob : ∀ j o, j ≠ k → S.ob j = some o → T.ob j = some o
theorem RFr.refl (k : Nat) (S : St) : RFr k S S := ⟨Nat.le_refl _, fun _ _ _ h => h⟩
theorem RFr.trans {k : Nat} {A B C : St} (h : RFr k A B) (g : RFr k B C) : RFr k A C := ⟨Nat.le_trans h.next g.next, fun j o hj e => g.ob j o hj (h.ob j o hj e)⟩
theorem RFr.box {k : Nat} {S T : St} (h : RFr k S T) (j : Nat) (t : TypeId) (cs : List D) (hj : j ≠ k) (e : S.ob j = some (.box t cs)) : T.ob j = some (.box t cs) := h.ob j _ hj e
theorem RFr.add {k : Nat} {S T : St} (h : RFr k S T) (hT : T.WF) (o : Ob) : RFr k S (T.add o) := h.trans ⟨Nat.le_succ _, fun j o' _ e => add_keep hT o j o' e⟩
theorem wd_c (l : List UInt8) : ∀ d ∈ l.map bD, d.cells.length = 1 := by
  intro d hd
  obtain ⟨b, _, rfl⟩ := List.mem_map.1 hd
  rfl
theorem take_bD (l : List UInt8) : List.take l.length (l.map bD) = l.map bD := List.take_of_length_le (by simp)
set_option maxRecDepth 200000 in
set_option maxHeartbeats 8000000 in
theorem field_r {S : St} {k : Nat} {l : List UInt8} {i s : Nat} (g : FuncId) (fs cs : List D) (C : St → Prop) (hk : k < S.next) (hr : RAt k l i S) (hi : i ≤ l.length) (hl : l.length ≤ 1099511627776) (hs : i + s ≤ l.length)
    (hC : ∀ T, C T → S.next ≤ T.next ∧ T.ob k = S.ob k)
    (h : DCalls Tryz.prog g (fs ++ [.sl .no ((l.drop i).map bD)] ++ cs) S fun d T => d = .tup [.v (.int .i64 (s : Int)), .v (.int .i64 0)] ∧ C T) :
    DCalls Tryz.prog 75 [.loc k 0, .fn (.func g) fs cs] S fun d T' => d = undefD ∧ ∃ T own, C T ∧ k < T.next ∧ T' = T.set k (.box 80 [.sl own (l.map bD), .v (.int .i64 ((i + s : Nat) : Int)), .v .nilIface]) := by
  obtain ⟨own, hr⟩ := hr
  refine dcalls_inline mixed Tryz.func75 rfl (fun _ _ => by kernel_rfl) (rs := []) rfl (by kernel_rfl) (fun hS => ?_)
  (simp (disch := first | decide | omega | (simp only [nx]; first | done | omega)) only [go_sem, hr]; (repeat with_reducible refine aI ?_))
  have hib : (i : Int) ≤ (l.length : Int) := by omega
  refine ddraw_any (fun S' => S'.ob k = some (.box 80 [.sl own (l.map bD), .v (.int .i64 (i : Int)), .v .nilIface])) 16 (by (first | (simp (disch := first | decide | omega | (simp only [nx]; first | done | omega)) only [go_sem, hr]; first | done | rfl) | rfl)) (by kernel_rfl) ?_
  (refine s_take 0 rfl (by kernel_rfl) (by kernel_rfl) (v := ?v1) (fun S' hz => dquietR_of ?h1) <| s_take 1 rfl (by kernel_rfl) (by kernel_rfl) (v := ?v2) (fun S' hz => dquietR_of ?h2) <| s_take 2 rfl (by kernel_rfl) (by kernel_rfl) (v := ?v3) (fun S' hz => dquietR_of ?h3) <| s_take 3 rfl (by kernel_rfl) (by kernel_rfl) (v := ?v4) (fun S' hz => dquietR_of ?h4) <| s_take 4 rfl (by kernel_rfl) (by kernel_rfl) (v := ?v5) (fun S' hz => dquietR_of ?h5) <| s_take 5 rfl (by kernel_rfl) (by kernel_rfl) (v := ?v6) (fun S' hz => dquietR_of ?h6) <| s_take 6 rfl (by kernel_rfl) (by kernel_rfl) (v := ?v7) (fun S' hz => dquietR_of ?h7) <| s_take 7 rfl (by kernel_rfl) (by kernel_rfl) (v := ?v8) (fun S' hz => dquietR_of ?h8) <| s_take 8 rfl (by kernel_rfl) (by kernel_rfl) (v := ?v9) (fun S' hz => dquietR_of ?h9) <| ?k9; (case h1 | h2 | h3 | h4 | h5 | h6 | h7 | h8 | h9 => ((simp (disch := first | decide | omega | (simp only [nx]; first | done | omega)) only [go_sem, hr, hz]; (repeat with_reducible refine aI ?_)); first | done | exact rfl | omega)))
  refine s_take 9 rfl (by kernel_rfl) (by kernel_rfl) (v := .sl .no ((l.drop i).map bD)) (fun S' hz => dquietR_of (by simp (disch := first | decide | omega | (simp only [nx]; first | done | omega)) only [go_sem, hz]; exact ⟨⟨hib, .inr (wd_c l)⟩, by first | rw [take_bD, List.map_drop] | rw [List.map_drop]⟩)) ?_
  (refine s_split [10] (by kernel_rfl) (by simp) ?_; intro j_ hj_; obtain rfl : j_ = 10 := (by simpa using hj_); clear hj_; refine s_op rfl ?_; (simp (disch := first | decide | omega | (simp only [nx]; first | done | omega)) only [go_sem, hr]; (repeat with_reducible refine aI ?_)))
  refine h.mono ?_
  rintro _ T ⟨rfl, hc⟩
  have hT := (hC T hc).2.trans hr
  refine ⟨hT, ?_⟩
  (refine s_take 11 rfl (by kernel_rfl) (by kernel_rfl) (v := ?v10) (fun S' hz => dquietR_of ?h10) <| s_take 12 rfl (by kernel_rfl) (by kernel_rfl) (v := ?v11) (fun S' hz => dquietR_of ?h11) <| s_take 13 rfl (by kernel_rfl) (by kernel_rfl) (v := ?v12) (fun S' hz => dquietR_of ?h12) <| s_take 14 rfl (by kernel_rfl) (by kernel_rfl) (v := ?v13) (fun S' hz => dquietR_of ?h13) <| s_take 15 rfl (by kernel_rfl) (by kernel_rfl) (v := ?v14) (fun S' hz => dquietR_of ?h14) <| ?k14; (case h10 | h11 | h12 | h13 | h14 => ((simp (disch := first | decide | omega | (simp only [nx]; first | done | omega)) only [go_sem, hT, hz]; (repeat with_reducible refine aI ?_)); first | done | exact rfl | omega)))
  have b00 : ((0 : Int) != 0) = false := rfl
  have wi : IntKind.i64.wrap ((i : Int) + (s : Int)) = ((i + s : Nat) : Int) := by rw [IntWalk.i64_in _ ⟨by omega, by omega⟩]; push_cast; rfl
  (refine s_done (by kernel_rfl) ?_; (simp (disch := first | decide | omega | (simp only [nx]; first | done | omega)) only [go_sem, hT, b00, wi]; (repeat with_reducible refine aI ?_)))
  exact ⟨T, own, hc, by have := (hC T hc).1; omega, rfl⟩
theorem set_ne {S : St} {a b : Nat} {o : Ob} (h : a ≠ b) : (S.set b o).ob a = S.ob a := by simp [St.set, h]
theorem set_eq {S : St} {b : Nat} {o : Ob} : (S.set b o).ob b = some o := by simp [St.set]
theorem add_ne {S : St} {a : Nat} {o : Ob} (h : a < S.next) : (S.add o).ob a = S.ob a := by simp [St.add, show a ≠ S.next by omega]
theorem add_eq {S : St} {o : Ob} : (S.add o).ob S.next = some o := by simp [St.add]
theorem numP_le {l : List UInt8} {n s : Nat} (h : numP l = some (n, s)) : s ≤ l.length ∧ IsU64 n := by
  have := numGo_bounds l 0 0 (by omega) (by simp) (by omega) n s h
  exact ⟨by omega, this.1⟩
set_option maxRecDepth 200000 in
set_option maxHeartbeats 8000000 in
theorem num1_r {S : St} {a b : Nat} {l : List UInt8} {n s mx : Nat} {cs : List D} (hab : a ≠ b) (ha : S.ob a = some (.box 54 [.v (.int .u64 (mx : Int))])) (hb : S.ob b = some (.box 54 cs)) (hcs : cs.length = 1) (hl : l.length ≤ 1099511627776) (hN : numP l = some (n, s)) (hmx : n ≤ mx) :
    DCalls Tryz.prog 79 [.sl .no (l.map bD), .loc a 0, .loc b 0] S fun d T => d = .tup [.v (.int .i64 (s : Int)), .v (.int .i64 0)] ∧ T = S.set b (.box 54 [.v (.int .u64 (n : Int))]) := by
  refine dcalls_inline mixed Tryz.func79 rfl (fun _ _ => by kernel_rfl) (rs := [.tmp 4, .tmp 5]) rfl (by kernel_rfl) (fun hS => ?_)
  have b00 : ((0 : Int) != 0) = false := rfl
  have b01 : ((0 : Int) == 0) = true := rfl
  have b1 : decide ((mx : Int) < (n : Int)) = false := by simp; omega
  obtain ⟨c0, rfl⟩ : ∃ c, cs = [c] := by match cs, hcs with | [c], _ => exact ⟨c, rfl⟩
  (simp (disch := first | decide | omega | (simp only [nx]; first | done | omega)) only [go_sem, ha, hb]; (repeat with_reducible refine aI ?_))
  refine DCalls.of_pure (number_d .no l hl) ?_
  rw [hN]
  (simp (disch := first | decide | omega | (simp only [nx]; first | done | omega)) only [go_sem, ha, hb, b00, b01, b1, numD]; (repeat with_reducible refine aI ?_))
set_option maxRecDepth 200000 in
set_option maxHeartbeats 8000000 in
theorem number_r {S : St} {k : Nat} {l : List UInt8} {i n s mx : Nat} (hk : k < S.next) (hr : RAt k l i S) (hl : l.length ≤ 1099511627776) (hi : i ≤ l.length) (hN : numP (l.drop i) = some (n, s)) (hmx : n ≤ mx) :
    DCalls Tryz.prog 66 [.loc k 0, .v (.int .u64 (mx : Int))] S fun d T => d = .v (.int .u64 (n : Int)) ∧ RAt k l (i + s) T ∧ RFr k S T := by
  have hs := (numP_le hN).1
  rw [List.length_drop] at hs
  refine dcalls_inline mixed Tryz.func66 rfl (fun _ _ => by kernel_rfl) (rs := [.tmp 4]) rfl (by kernel_rfl) (fun hS => ?_)
  (simp (disch := first | decide | omega | (simp only [nx]; first | done | omega)) only [go_sem]; (repeat with_reducible refine aI ?_))
  refine (field_r _ [] _ (fun T => T = ((S.add (.box 54 [.v (.int .u64 (mx : Int))])).add (.box 54 [.v (.int .u64 0)])).set (S.next + 1) (.box 54 [.v (.int .u64 (n : Int))])) (by show k < S.next + 1 + 1; omega) (hr.keep fun j o e => by have := hS.lt e; rw [add_ne (by show j < S.next + 1; omega), add_ne this, e]) hi hl (s := s) (by omega) ?_ ?_).mono ?_
  · rintro T rfl
    exact ⟨Nat.le_refl _, set_ne (by omega)⟩
  · exact num1_r (by omega) (by rw [add_ne (by show S.next < S.next + 1; omega), add_eq]) (add_eq (S := S.add _)) rfl (by rw [List.length_drop]; omega) hN hmx
  · rintro _ T' ⟨rfl, T, own, rfl, hk', rfl⟩
    (simp (disch := first | decide | omega | (simp only [nx]; first | done | omega)) only [go_sem, hk']; (repeat with_reducible refine aI ?_))
    refine ⟨⟨own, set_eq⟩, ⟨by show S.next ≤ S.next + 1 + 1; omega, fun j o hj e => ?_⟩⟩
    have := hS.lt e
    rw [set_ne hj, set_ne (by omega), add_ne (by show j < S.next + 1; omega), add_ne this, e]
def bytP (l : List UInt8) (mx : Nat) : Option (List UInt8 × Nat) := match numP l with
  | some (n, s) => if n ≤ mx ∧ s + n ≤ l.length then some ((l.drop s).take n, s + n) else none
  | none => none
theorem bytP_numB (xs rest : List UInt8) (mx : Nat) (h : xs.length ≤ mx) (hu : xs.length < 18446744073709551616) : bytP (numB xs.length ++ xs ++ rest) mx = some (xs, (numB xs.length).length + xs.length) := by
  unfold bytP
  rw [List.append_assoc, numP_numB _ _ hu]
  simp only
  rw [if_pos ⟨h, by simp⟩]
  simp
theorem bytP_some {l xs : List UInt8} {mx s : Nat} (h : bytP l mx = some (xs, s)) : ∃ n q, numP l = some (n, q) ∧ n ≤ mx ∧ q + n ≤ l.length ∧ xs = (l.drop q).take n ∧ s = q + n := by
  unfold bytP at h
  split at h
  · rename_i n q e
    split at h
    · rename_i h1
      injection h with h
      injection h with h2 h3
      exact ⟨n, q, e, h1.1, h1.2, h2.symm, h3.symm⟩
    · cases h
  · cases h
set_option maxRecDepth 200000 in
set_option maxHeartbeats 8000000 in
theorem byt1_r {S : St} {a b : Nat} {l xs : List UInt8} {s mx : Nat} (hab : a ≠ b) (hbn : b < S.next) (ha : S.ob a = some (.box 3 [.v (.int .i64 (mx : Int))])) (hb : S.ob b = some (.box 29 [.sl .full []])) (hl : l.length ≤ 1099511627776) (hm : mx ≤ 1099511627776) (hN : bytP l mx = some (xs, s)) :
    DCalls Tryz.prog 86 [.sl .no (l.map bD), .loc a 0, .loc b 0] S fun d T => d = .tup [.v (.int .i64 (s : Int)), .v (.int .i64 0)] ∧ T = (S.grow .full 5 xs.length).set b (.box 29 [.sl (.row S.next) (xs.map bD)]) := by
  obtain ⟨n, q, hN', hmx, hq, rfl, rfl⟩ := bytP_some hN
  clear hN
  have hN := hN'
  have mx0 : (if (0 : Int) < (mx : Int) then (mx : Int) else 0) = (mx : Int) := by split <;> omega
  have hn := (numP_le hN).2
  refine dcalls_inline mixed Tryz.func86 rfl (fun _ _ => by kernel_rfl) (rs := [.tmp 4, .tmp 5]) rfl (by kernel_rfl) (fun hS => ?_)
  have b00 : ((0 : Int) != 0) = false := rfl
  have wm : IntKind.u64.wrap (mx : Int) = (mx : Int) := wrap_u64 mx (by unfold IsU64; omega)
  have wl : IntKind.i64.wrap ((l.length : Int) - (q : Int)) = ((l.length - q : Nat) : Int) := by rw [IntWalk.i64_in _ ⟨by omega, by omega⟩]; omega
  have wu : IntKind.u64.wrap ((l.length - q : Nat) : Int) = ((l.length - q : Nat) : Int) := wrap_u64 _ (by unfold IsU64; omega)
  have wn : IntKind.i64.wrap (n : Int) = (n : Int) := IntWalk.i64_in _ ⟨by omega, by omega⟩
  have wq : IntKind.i64.wrap ((q : Int) + (n : Int)) = ((q + n : Nat) : Int) := by rw [IntWalk.i64_in _ ⟨by omega, by omega⟩]; push_cast; rfl
  have b1 : decide ((mx : Int) < (n : Int)) = false := by simp; omega
  have b2 : decide (((l.length - q : Nat) : Int) < (n : Int)) = false := by simp; omega
  (simp (disch := first | decide | omega | (simp only [nx]; first | done | omega)) only [go_sem, ha, hb]; (repeat with_reducible refine aI ?_))
  refine DCalls.of_pure (number_d .no l hl) ?_
  rw [hN]
  (simp (disch := first | decide | omega | (simp only [nx]; first | done | omega)) only [go_sem, ha, hb, b00, numD, mx0, wm, wl, wu, wn, wq, b1, b2]; (repeat with_reducible refine aI ?_))
  have hsl : List.drop q (List.take (q + n) (l.map bD)) = ((l.drop q).take n).map bD := by rw [← List.map_take, ← List.map_drop, List.drop_take, Nat.add_sub_cancel_left]
  have hle : ((q + n : Nat) : Int) ≤ (l.length : Int) := by omega
  have hle0 : (q : Int) ≤ ((q + n : Nat) : Int) := by omega
  have hwd := eq_true (wd_c l)
  refine ddraw_mk 8 (by kernel_rfl) ?_
  simp (disch := first | decide | omega | (simp only [nx]; first | done | omega)) only [go_sem, ha, hb, b00, wn, wq, hsl, hwd, hle, hle0]
  refine dapp_bytes (bs := []) (.inl ⟨rfl, rfl⟩) (by rw [List.length_take, List.length_drop]; simp; omega) ?_
  have hbS : (b = S.next) = False := by simp; omega
  (simp (disch := first | decide | omega | (simp only [nx]; first | done | omega)) only [go_sem, ha, hb, wn, wq, hbS]; (repeat with_reducible refine aI ?_))
set_option maxRecDepth 200000 in
set_option maxHeartbeats 8000000 in
theorem bytes_r {S : St} {k : Nat} {l xs : List UInt8} {i s mx : Nat} (hk : k < S.next) (hr : RAt k l i S) (hl : l.length ≤ 1099511627776) (hi : i ≤ l.length) (hm : mx ≤ 1099511627776) (hN : bytP (l.drop i) mx = some (xs, s)) :
    DCalls Tryz.prog 78 [.loc k 0, .v (.int .i64 (mx : Int))] S fun d T => (∃ o, d = .sl o (xs.map bD)) ∧ RAt k l (i + s) T ∧ RFr k S T := by
  obtain ⟨n, q, hN', _, hq, _, hsq⟩ := bytP_some hN
  rw [List.length_drop] at hq
  refine dcalls_inline mixed Tryz.func78 rfl (fun _ _ => by kernel_rfl) (rs := [.tmp 4]) rfl (by kernel_rfl) (fun hS => ?_)
  (simp (disch := first | decide | omega | (simp only [nx]; first | done | omega)) only [go_sem]; (repeat with_reducible refine aI ?_))
  refine (field_r _ [] _ (fun T => T = (((S.add (.box 3 [.v (.int .i64 (mx : Int))])).add (.box 29 [.sl .full []])).grow .full 5 xs.length).set (S.next + 1) (.box 29 [.sl (.row (S.next + 1 + 1)) (xs.map bD)])) (by show k < S.next + 1 + 1; omega) (hr.keep fun j o e => by have := hS.lt e; rw [add_ne (by show j < S.next + 1; omega), add_ne this, e]) hi hl (s := s) (by omega) ?_ ?_).mono ?_
  · rintro T rfl
    refine ⟨by show S.next + 1 + 1 ≤ S.next + 1 + 1 + 1; omega, ?_⟩
    rw [set_ne (by omega)]
    simp only [St.grow, St.leave]
    exact add_ne (by show k < S.next + 1 + 1; omega)
  · exact byt1_r (by omega) (by show S.next + 1 < S.next + 1 + 1; omega) (by rw [add_ne (by show S.next < S.next + 1; omega), add_eq]) (add_eq (S := S.add _)) (by rw [List.length_drop]; omega) hm hN
  · rintro _ T' ⟨rfl, T, own, rfl, hk', rfl⟩
    (simp (disch := first | decide | omega | (simp only [nx]; first | done | omega)) only [go_sem, hk']; (repeat with_reducible refine aI ?_))
    refine ⟨⟨_, rfl⟩, ⟨own, set_eq⟩, ⟨by show S.next ≤ S.next + 1 + 1 + 1; omega, fun j o hj e => ?_⟩⟩
    have := hS.lt e
    rw [set_ne hj, set_ne (by omega)]
    simp only [St.grow, St.leave]
    rw [add_ne (by show j < S.next + 1 + 1; omega), add_ne (by show j < S.next + 1; omega), add_ne this, e]
set_option maxRecDepth 200000 in
set_option maxHeartbeats 8000000 in
theorem text_r {S : St} {k : Nat} {l xs : List UInt8} {i s mx : Nat} (hk : k < S.next) (hr : RAt k l i S) (hl : l.length ≤ 1099511627776) (hi : i ≤ l.length) (hm : mx ≤ 1099511627776) (hN : bytP (l.drop i) mx = some (xs, s)) :
    DCalls Tryz.prog 62 [.loc k 0, .v (.int .i64 (mx : Int))] S fun d T => d = .v (.string ⟨xs.toArray⟩) ∧ RAt k l (i + s) T ∧ RFr k S T := by
  refine dcalls_inline mixed Tryz.func62 rfl (fun _ _ => by kernel_rfl) (rs := [.tmp 4]) rfl (by kernel_rfl) (fun hS => ?_)
  (simp (disch := first | decide | omega | (simp only [nx]; first | done | omega)) only [go_sem]; (repeat with_reducible refine aI ?_))
  refine (bytes_r hk hr hl hi hm hN).mono ?_
  rintro _ T ⟨⟨o, rfl⟩, h1, h2⟩
  (simp (disch := first | decide | omega | (simp only [nx]; first | done | omega)) only [go_sem]; (repeat with_reducible refine aI ?_))
  exact h2
set_option maxRecDepth 200000 in
set_option maxHeartbeats 8000000 in
theorem err_r {S : St} {k : Nat} {l : List UInt8} {i : Nat} (hr : RAt k l i S) : DCalls Tryz.prog 42 [.loc k 0] S fun d T => d = .v .nilIface ∧ T = S := by
  obtain ⟨own, hr⟩ := hr
  refine dcalls_inline mixed Tryz.func42 rfl (fun _ _ => by kernel_rfl) (rs := [.tmp 2]) rfl (by kernel_rfl) (fun hS => ?_)
  (simp (disch := first | decide | omega | (simp only [nx]; first | done | omega)) only [go_sem, hr]; (repeat with_reducible refine aI ?_))
set_option maxRecDepth 200000 in
set_option maxHeartbeats 8000000 in
theorem end_r {S : St} {k : Nat} {l : List UInt8} (hr : RAt k l l.length S) : DCalls Tryz.prog 26 [.loc k 0] S fun d T => d = .v .nilIface ∧ T = S := by
  have hr0 := hr
  obtain ⟨own, hr⟩ := hr
  refine dcalls_inline mixed Tryz.func26 rfl (fun _ _ => by kernel_rfl) (rs := [.tmp 2]) rfl (by kernel_rfl) (fun hS => ?_)
  have b1 : decide ((l.length : Int) < (l.length : Int)) = false := by simp
  (simp (disch := first | decide | omega | (simp only [nx]; first | done | omega)) only [go_sem, hr, b1]; (repeat with_reducible refine aI ?_))
  refine ddraw_mk 14 (by kernel_rfl) ?_
  (simp (disch := first | decide | omega | (simp only [nx]; first | done | omega)) only [go_sem, hr, b1]; (repeat with_reducible refine aI ?_))
  refine (err_r hr0).mono ?_
  rintro _ T ⟨rfl, rfl⟩
  (simp (disch := first | decide | omega | (simp only [nx]; first | done | omega)) only [go_sem]; (repeat with_reducible refine aI ?_))
set_option maxRecDepth 200000 in
set_option maxHeartbeats 8000000 in
theorem new_r {S : St} {l : List UInt8} {o : Own} (hl : l.length ≤ 1099511627776) : DCalls Tryz.prog 24 [.sl o (l.map bD)] S fun d T => ∃ k, d = .loc k 0 ∧ S.next ≤ k ∧ k < T.next ∧ RAt k l 0 T ∧ ∀ j o, S.ob j = some o → T.ob j = some o := by
  refine dcalls_inline mixed Tryz.func24 rfl (fun _ _ => by kernel_rfl) (rs := [.tmp 2]) rfl (by kernel_rfl) (fun hS => ?_)
  (simp (disch := first | decide | omega | (simp only [nx]; first | done | omega)) only [go_sem]; (repeat with_reducible refine aI ?_))
  refine dapp_bytes (bs := []) (.inl ⟨rfl, rfl⟩) (by simpa using hl) ?_
  (simp (disch := first | decide | omega | (simp only [nx]; first | done | omega)) only [go_sem]; (repeat with_reducible refine aI ?_))
  refine ⟨S.next + 1, rfl, by omega, by omega, ⟨.row S.next, add_eq (S := S.grow .full 5 l.length)⟩, fun j o e => ?_⟩
  have := hS.lt e
  rw [add_ne (by show j < S.next + 1; omega)]
  simp only [St.grow, St.leave]
  rw [add_ne this, e]
end Go.Proofs.YtbcabejdchkpmaaGreatDoor

namespace Go.Proofs.YtbcabejdchkpmaaGreatDoor
open Go.RowKit
section
set_option maxRecDepth 200000
set_option maxHeartbeats 8000000
theorem byte1_r {S : St} {b : Nat} {l : List UInt8} {c : UInt8} {cs : List D} (hb : S.ob b = some (.box 5 cs)) (hcs : cs.length = 1) :
    DCalls Tryz.prog 76 [.sl .no ((c :: l).map bD), .loc b 0] S fun d T => d = .tup [.v (.int .i64 ((1 : Nat) : Int)), .v (.int .i64 0)] ∧ T = S.set b (.box 5 [bD c]) := by
  refine dcalls_inline mixed Tryz.func76 rfl (fun _ _ => by kernel_rfl) (rs := [.tmp 3, .tmp 4]) rfl (by kernel_rfl) (fun hS => ?_)
  obtain ⟨c0, rfl⟩ : ∃ c, cs = [c] := by match cs, hcs with | [c], _ => exact ⟨c, rfl⟩
  have b1 : (((l.length + 1 : Nat) : Int) == 0) = false := by simp; omega
  (simp (disch := first | decide | omega | (simp only [nx]; first | done | omega)) only [go_sem, hb, List.map_cons, List.length_cons, b1, bD]; (repeat with_reducible refine aI ?_))
  rfl
theorem byte_r {S : St} {k : Nat} {l rest : List UInt8} {i : Nat} {c : UInt8} (hk : k < S.next) (hr : RAt k l i S) (hl : l.length ≤ 1099511627776) (hi : i ≤ l.length) (hd : l.drop i = c :: rest) :
    DCalls Tryz.prog 59 [.loc k 0] S fun d T => d = bD c ∧ RAt k l (i + 1) T ∧ RFr k S T := by
  have hs : i + 1 ≤ l.length := by
    have := congrArg List.length hd
    rw [List.length_drop, List.length_cons] at this; omega
  refine dcalls_inline mixed Tryz.func59 rfl (fun _ _ => by kernel_rfl) (rs := [.tmp 2]) rfl (by kernel_rfl) (fun hS => ?_)
  (simp (disch := first | decide | omega | (simp only [nx]; first | done | omega)) only [go_sem]; (repeat with_reducible refine aI ?_))
  refine (field_r _ [] _ (fun T => T = (S.add (.box 5 [.v (.int .u8 0)])).set S.next (.box 5 [bD c])) (by show k < S.next + 1; omega) (hr.keep fun j o e => by have := hS.lt e; rw [add_ne this, e]) hi hl (s := 1) hs ?_ ?_).mono ?_
  · rintro T rfl
    exact ⟨Nat.le_refl _, set_ne (by omega)⟩
  · rw [hd]
    exact byte1_r add_eq rfl
  · rintro _ T' ⟨rfl, T, own, rfl, hk', rfl⟩
    (simp (disch := first | decide | omega | (simp only [nx]; first | done | omega)) only [go_sem, hk']; (repeat with_reducible refine aI ?_))
    refine ⟨⟨own, set_eq⟩, ⟨by show S.next ≤ S.next + 1; omega, fun j o hj e => ?_⟩⟩
    have := hS.lt e
    rw [set_ne hj, set_ne (by omega), add_ne this, e]
theorem bool1_r {S : St} {b : Nat} {l : List UInt8} {c : Bool} {cs : List D} (hb : S.ob b = some (.box 4 cs)) (hcs : cs.length = 1) :
    DCalls Tryz.prog 77 [.sl .no (((if c then 1 else 0) :: l).map bD), .loc b 0] S fun d T => d = .tup [.v (.int .i64 ((1 : Nat) : Int)), .v (.int .i64 0)] ∧ T = S.set b (.box 4 [.v (.bool c)]) := by
  refine dcalls_inline mixed Tryz.func77 rfl (fun _ _ => by kernel_rfl) (rs := [.tmp 3, .tmp 4]) rfl (by kernel_rfl) (fun hS => ?_)
  obtain ⟨c0, rfl⟩ : ∃ c, cs = [c] := by match cs, hcs with | [c], _ => exact ⟨c, rfl⟩
  have b1 : (((l.length + 1 : Nat) : Int) == 0) = false := by simp; omega
  cases c with
  | true =>
    have e1 : bD 1 = .v (.int .u8 1) := rfl
    have b2 : decide ((1 : Int) < 1) = false := by decide
    have b3 : ((1 : Int) == 1) = true := by decide
    simp only [if_true, Bool.false_eq_true, if_false]
    (simp (disch := first | decide | omega | (simp only [nx]; first | done | omega)) only [go_sem, hb, List.map_cons, List.length_cons, b1, e1, b2, b3]; (repeat with_reducible refine aI ?_))
    rfl
  | false =>
    have e1 : bD 0 = .v (.int .u8 0) := rfl
    have b2 : decide ((1 : Int) < 0) = false := by decide
    have b3 : ((0 : Int) == 1) = false := by decide
    simp only [if_true, Bool.false_eq_true, if_false]
    (simp (disch := first | decide | omega | (simp only [nx]; first | done | omega)) only [go_sem, hb, List.map_cons, List.length_cons, b1, e1, b2, b3]; (repeat with_reducible refine aI ?_))
    rfl
theorem bool_r {S : St} {k : Nat} {l rest : List UInt8} {i : Nat} {c : Bool} (hk : k < S.next) (hr : RAt k l i S) (hl : l.length ≤ 1099511627776) (hi : i ≤ l.length) (hd : l.drop i = (if c then 1 else 0) :: rest) :
    DCalls Tryz.prog 60 [.loc k 0] S fun d T => d = .v (.bool c) ∧ RAt k l (i + 1) T ∧ RFr k S T := by
  have hs : i + 1 ≤ l.length := by
    have := congrArg List.length hd
    rw [List.length_drop, List.length_cons] at this; omega
  refine dcalls_inline mixed Tryz.func60 rfl (fun _ _ => by kernel_rfl) (rs := [.tmp 2]) rfl (by kernel_rfl) (fun hS => ?_)
  (simp (disch := first | decide | omega | (simp only [nx]; first | done | omega)) only [go_sem]; (repeat with_reducible refine aI ?_))
  refine (field_r _ [] _ (fun T => T = ((S.add (.box 4 [.v (.bool false)])).set S.next (.box 4 [.v (.bool false)])).set S.next (.box 4 [.v (.bool c)])) (by show k < S.next + 1; omega) (hr.keep fun j o e => by have := hS.lt e; rw [set_ne (by omega), add_ne this, e]) hi hl (s := 1) hs ?_ ?_).mono ?_
  · rintro T rfl
    exact ⟨Nat.le_refl _, set_ne (by omega)⟩
  · rw [hd]
    exact bool1_r set_eq rfl
  · rintro _ T' ⟨rfl, T, own, rfl, hk', rfl⟩
    (simp (disch := first | decide | omega | (simp only [nx]; first | done | omega)) only [go_sem, hk']; (repeat with_reducible refine aI ?_))
    refine ⟨⟨own, set_eq⟩, ⟨by show S.next ≤ S.next + 1; omega, fun j o hj e => ?_⟩⟩
    have := hS.lt e
    rw [set_ne hj, set_ne (by omega), set_ne (by omega), add_ne this, e]
theorem bin_shr1 {P : Program} {t : TypeId} {x y : Operand} (a : Nat) : dbin P .shr t x y (.v (.int .u64 a)) (.v (.int .u64 1)) = some (True, .v (.int .u64 ((a / 2 : Nat) : Int))) := by
  simp [dbin, eqGuard, binOp, shift_shr .u64 .u64 (a : Int) 1 (by omega) (by decide), pureRun_bind, pureRun_pure]
theorem bin_and {P : Program} {t : TypeId} {x y : Operand} (k : IntKind) (a b : Int) : dbin P .and t x y (.v (.int k a)) (.v (.int k b)) = some (True, .v (.int k (bits .and k a b))) := by
  simp [dbin, eqGuard, binOp, intBits_and, pureRun_bind, pureRun_pure]
theorem and1 (q : Nat) (h : IsU64 q) : bits BinOp.and IntKind.u64 (q : Int) 1 = ((q % 2 : Nat) : Int) := by
  have := bits_and_u64_nat q 1 h (by omega)
  rw [Nat.and_one_is_mod] at this
  exact this
theorem unzig_xor (n : Int) (hn : IsI64 n) : bits BinOp.xor IntKind.i64 ((zig n / 2 : Nat) : Int) (-((zig n % 2 : Nat) : Int)) = n := by
  have hz := zig_u64 n hn
  unfold IsU64 at hz
  have hu : (if zig n % 2 = 1 then -((zig n / 2 : Nat) : Int) - 1 else ((zig n / 2 : Nat) : Int)) = n := by
    unfold zig; split <;> split <;> omega
  generalize zig n = q at *
  rw [← hu]
  show IntKind.i64.wrap ((BitVec.ofInt 64 _ ^^^ BitVec.ofInt 64 _).toNat : Int) = _
  by_cases ho : q % 2 = 1
  · rw [if_pos ho, ho, show BitVec.ofInt 64 (-((1 : Nat) : Int)) = BitVec.allOnes 64 from by decide, BitVec.xor_allOnes, BitVec.toNat_not, BitVec.toNat_ofInt]
    simp only [IntKind.wrap_i64]
    omega
  · have h0 : q % 2 = 0 := by omega
    rw [if_neg ho, h0, show BitVec.ofInt 64 (-((0 : Nat) : Int)) = 0#64 from by decide, BitVec.xor_zero, BitVec.toNat_ofInt]
    simp only [IntKind.wrap_i64]
    omega
theorem int_r {S : St} {k : Nat} {l rest : List UInt8} {i : Nat} (n : Int) (hn : IsI64 n) (hk : k < S.next) (hr : RAt k l i S) (hl : l.length ≤ 1099511627776) (hi : i ≤ l.length) (hd : l.drop i = numB (zig n) ++ rest) :
    DCalls Tryz.prog 61 [.loc k 0] S fun d T => d = .v (.int .i64 n) ∧ RAt k l (i + (numB (zig n)).length) T ∧ RFr k S T := by
  refine dcalls_inline mixed Tryz.func61 rfl (fun _ _ => by kernel_rfl) (rs := [.tmp 2]) rfl (by kernel_rfl) (fun hS => ?_)
  (simp (disch := first | decide | omega | (simp only [nx]; first | done | omega)) only [go_sem]; (repeat with_reducible refine aI ?_))
  have hz := zig_u64 n hn
  refine (number_r (mx := 18446744073709551615) (n := zig n) (s := (numB (zig n)).length) hk hr hl hi (by rw [hd]; exact numP_numB _ _ hz) (by unfold IsU64 at hz; omega)).mono ?_
  rintro _ T ⟨rfl, h1, h2⟩
  have hzu : zig n < 18446744073709551616 := hz
  have w1 : IntKind.i64.wrap ((zig n / 2 : Nat) : Int) = ((zig n / 2 : Nat) : Int) := IntWalk.i64_in _ ⟨by omega, by omega⟩
  have w2 : IntKind.i64.wrap ((zig n % 2 : Nat) : Int) = ((zig n % 2 : Nat) : Int) := IntWalk.i64_in _ ⟨by omega, by omega⟩
  have w3 : IntKind.i64.wrap (0 - ((zig n % 2 : Nat) : Int)) = -((zig n % 2 : Nat) : Int) := by rw [IntKind.wrap_i64]; omega
  (simp (disch := first | decide | omega | (simp only [nx]; first | done | omega)) only [go_sem, bin_shr1, bin_and, bin_xor, and1 _ hz, cv_u64i64, w1, w2, w3, unzig_xor n hn]; (repeat with_reducible refine aI ?_))
  exact h2
end
end Go.Proofs.YtbcabejdchkpmaaGreatDoor

namespace Go.Proofs.YtbcabejdchkpmaaGreatDoor
open Go.RowKit
theorem gdV0 (s : DVal) : (encV s).cells.getD 0 undefD = .v (.int .i64 s.kind) := by rw [encV_eq]; exact Eq.trans (Eq.refl _) (Eq.refl _)
theorem gdV1 (s : DVal) : (encV s).cells.getD 1 undefD = .v (.int .i64 s.n) := by rw [encV_eq]; exact Eq.trans (Eq.refl _) (Eq.refl _)
theorem gdV2 (s : DVal) : (encV s).cells.getD 2 undefD = .v (sv s.s) := by rw [encV_eq]; exact Eq.trans (Eq.refl _) (Eq.refl _)
theorem gdV3 (s : DVal) : (encV s).cells.getD 3 undefD = .sl .no (s.names.map strD) := by rw [encV_eq]; exact Eq.trans (Eq.refl _) (Eq.refl _)
theorem gdV4 (s : DVal) : (encV s).cells.getD 4 undefD = .sl .no (s.ids.map u64D) := by rw [encV_eq]; exact Eq.trans (Eq.refl _) (Eq.refl _)
theorem gdV5 (s : DVal) : (encV s).cells.getD 5 undefD = .sl .no (s.parts.map encV) := by rw [encV_eq]; exact Eq.trans (Eq.refl _) (Eq.refl _)
attribute [go_sem] gdV0 gdV1 gdV2 gdV3 gdV4 gdV5
theorem drop_encV (s : DVal) : (encV s).cells.drop 6 = [] := List.drop_of_length_le (by rw [cells_encV]; omega)
theorem take_map_len {α β : Type} (f : α → β) (l : List α) : (l.map f).take l.length = l.map f := List.take_of_length_le (by simp)
attribute [go_sem] drop_encV take_map_len
theorem take_splice_V (v : DVal) (l : List D) : ((encV v).cells ++ l).take 6 = (encV v).cells := by
  rw [List.take_append, cells_encV, List.take_of_length_le (by rw [cells_encV]; omega)]; simp
attribute [go_sem] take_splice_V
end Go.Proofs.YtbcabejdchkpmaaGreatDoor

namespace Go.Proofs.YtbcabejdchkpmaaGreatDoor
open Go.RowKit
theorem weights_take_le (l : List DVal) : ∀ i, DVal.weights (l.take i) ≤ DVal.weights l := by
  induction l with
  | nil => intro i; simp [DVal.weights]
  | cons p l ih =>
    intro i
    cases i with
    | zero => simp [DVal.weights]
    | succ i => simp only [List.take_succ_cons, DVal.weights]; have := ih i; omega
end Go.Proofs.YtbcabejdchkpmaaGreatDoor

namespace Go.Proofs.YtbcabejdchkpmaaGreatDoor
open Go.RowKit
section
variable {x y : Operand} (a b : DStp) {K : D → Prop} {K' : D → St → Prop} {S : St}
end
theorem refSameV_d (a b : DVal) (hoa : okV a) (hob : okV b) : DPure Tryz.prog 12 [encV a, encV b] (.v (.bool (eqB a b))) :=
  dpure_of_gives (fun _ _ => by kernel_rfl) fun w η X vs hr => by
    simp only [RepL] at hr
    obtain ⟨x, xs, rfl, h1, y, ys, rfl, h2, rfl⟩ := hr
    obtain ⟨cs, rfl, hv⟩ := val_of_rep a.depth a (Nat.le_refl _) hoa h1
    obtain ⟨ds, rfl, hw⟩ := val_of_rep b.depth b (Nat.le_refl _) hob h2
    exact refValSame_calls a.depth a b cs ds w (Nat.le_refl _) hv hw
end Go.Proofs.YtbcabejdchkpmaaGreatDoor

namespace Go.Proofs.YtbcabejdchkpmaaGreatDoor
open Go.RowKit
theorem bin_rem {P : Program} {t : TypeId} {x y : Operand} (k : IntKind) (a b : Int) (hb : b ≠ 0) : dbin P .rem t x y (.v (.int k a)) (.v (.int k b)) = some (True, .v (.int k (a.tmod b))) := by
  simp [dbin, eqGuard, binOp, Op.intDiv, pureRun_bind, pureRun_pure, hb]
end Go.Proofs.YtbcabejdchkpmaaGreatDoor

namespace Go.Proofs.YtbcabejdchkpmaaGreatDoor
open Go.RowKit
theorem name_d (s : Str) (hs : s.length ≤ maxLen) : DPure Tryz.prog 73 [.v (sv s)] (.v (.bool (nameB s))) :=
  dpure_of_gives (fun _ _ => by kernel_rfl) fun w η X vs hr => by
    simp only [RepL, Rep] at hr
    obtain ⟨x, xs, rfl, rfl, rfl⟩ := hr
    exact name_calls s w hs
end Go.Proofs.YtbcabejdchkpmaaGreatDoor

namespace Go.Proofs.YtbcabejdchkpmaaGreatDoor
open Go.RowKit

def SrcOk (S : St) (z : Nat) (d : D) (m : Nat) (news : List D) : Prop := match d with
  | .sl _ es => (∀ x ∈ es, x.width = z) ∧ m = es.length ∧ news = flat es
  | .win k off n _ => m = n ∧ (n = 0 ∧ news = [] ∨ ∃ t cs, S.ob k = some (.box t cs) ∧ off + n * z ≤ cs.length ∧ news = (cs.drop off).take (n * z))
  | _ => False
theorem srcOk_sl {S : St} {z : Nat} {o : Own} {es : List D} (h : ∀ x ∈ es, x.width = z) : SrcOk S z (.sl o es) es.length (flat es) := ⟨h, rfl, rfl⟩
theorem srcOk_one {S : St} {z : Nat} {o : Own} {x : D} (h : x.width = z) : SrcOk S z (.sl o [x]) 1 (flat [x]) := ⟨fun y hy => by rw [List.mem_singleton] at hy; subst hy; exact h, rfl, rfl⟩
theorem srcOk_win {S : St} {z k off n c : Nat} {t : TypeId} {cs : List D} (hk : S.ob k = some (.box t cs)) (h : off + n * z ≤ cs.length) : SrcOk S z (.win k off n c) n ((cs.drop off).take (n * z)) := ⟨rfl, .inr ⟨t, cs, hk, h, rfl⟩⟩
structure SrcAt (w : World) (z : Nat) (v : Value) (m : Nat) (us : List Value) : Prop where
  sl : ∃ A c, v = .slice A m c ∧ m ≤ 140737488355328 ∧ ((A = none ∧ m = 0) ∨ ∃ a, A = some a ∧ ∀ (j : Nat) u, us[j]? = some u → w.cell? (a.add j) = some u)
  len : us.length = m * z
  one : ∀ u ∈ us, u.oneCell' = true
section
variable {P : Program} {base : Nat} {S : St} {η : Names} {w : World}
theorem take_mul {α : Type} {l : List α} {q m z : Nat} (h : l.length = m * z) (hq : q ≤ m) : (l.take (q * z)).length = q * z := by
  rw [List.length_take, h]
  exact Nat.min_eq_left (Nat.mul_le_mul_right _ hq)
theorem SrcOk.length {z : Nat} {d : D} {m : Nat} {news : List D} (h : SrcOk S z d m news) : news.length = m * z := by
  cases d with
  | sl o es => obtain ⟨h1, rfl, rfl⟩ := h; exact dflat_length h1
  | win k off n c =>
    obtain ⟨rfl, ⟨h1, rfl⟩ | ⟨t, cs, _, h2, rfl⟩⟩ := h
    · rw [h1]; simp
    · rw [List.length_take, List.length_drop]; omega
  | _ => exact h.elim
theorem srcOk_at (hM : Mem P base S η w) {z : Nat} {d : D} {m : Nat} {news : List D} {v : Value} (hs : SrcOk S z d m news) (hr : Rep P w η (Fix P S η) d v) :
    ∃ us, SrcAt w z v m us ∧ RepL P w η (Fix P S η) news us := by
  cases d with
  | sl o es =>
    obtain ⟨h1, rfl, rfl⟩ := hs
    simp only [Rep] at hr
    obtain ⟨A, c, rfl, h2, h3, h4, h5⟩ := hr
    rcases Nat.eq_zero_or_pos es.length with h0 | h0
    · have : es = [] := List.eq_nil_of_length_eq_zero h0
      subst this
      refine ⟨[], ⟨⟨A, c, rfl, by simp, ?_⟩, by simp, fun u hu => by cases hu⟩, by simp [flat, RepL]⟩
      cases A with
      | none => exact .inl ⟨rfl, rfl⟩
      | some a => exact .inr ⟨a, rfl, fun j u hu => by simp at hu⟩
    · obtain ⟨b, o, z', rfl, hz', hr⟩ := h5 h0
      obtain ⟨k1, k2⟩ := RepE.flat hr
      obtain ⟨vs, g1, g2, g3, g4⟩ := k2.range
      exact ⟨vs, ⟨⟨_, c, rfl, h3, .inr ⟨_, rfl, fun j u hu => by rw [Addr.add_mid]; exact g2 j u hu⟩⟩, by rw [g1, dflat_length h1], g4⟩, g3⟩
  | win k off n c =>
    obtain ⟨rfl, h⟩ := hs
    obtain ⟨A, rfl, h2, h3, h4⟩ := hr.win_slice
    rcases h with ⟨rfl, rfl⟩ | ⟨t, cs, h5, h6, rfl⟩
    · refine ⟨[], ⟨⟨A, c, rfl, by simp, ?_⟩, by simp, fun u hu => by cases hu⟩, by simp [RepL]⟩
      cases A with
      | none => exact .inl ⟨rfl, rfl⟩
      | some a => exact .inr ⟨a, rfl, fun j u hu => by simp at hu⟩
    · obtain ⟨b, hb⟩ := hM.live k t cs h5
      rcases h4 with ⟨b', h4, rfl⟩ | ⟨h4, _⟩
      rotate_left
      · rw [hb] at h4; cases h4
      have : b' = b := by rw [hb] at h4; injection h4 with h4; injection h4 with h4; exact h4.symm
      subst this
      obtain ⟨vs, g1, g2, g3⟩ := hM.box k t cs b' h5 hb
      have hl := g2.length
      refine ⟨(vs.drop off).take (m * z), ⟨⟨_, c, rfl, h3, .inr ⟨_, rfl, fun j u hu => ?_⟩⟩, by rw [List.length_take, List.length_drop]; omega, fun u hu => g3 u (List.mem_of_mem_drop (List.mem_of_mem_take hu))⟩, (g2.drop off).take _⟩
      rw [Addr.add_mid]
      have : w.cell? ⟨b', off + j, none⟩ = vs.toArray[off + j]? := by simp [World.cell?, g1]
      rw [this]
      rw [List.getElem?_take] at hu
      split at hu
      · rw [List.getElem?_drop] at hu
        simpa using hu
      · cases hu
  | _ => exact hs.elim
theorem SrcAt.src {z : Nat} {v : Value} {m : Nat} {us : List Value} {tx : TypeId} (h : SrcAt w z v m us) (ht : (elT P tx).isSome = true) : Src P z tx v m us w := by
  obtain ⟨e', he'⟩ := Option.isSome_iff_exists.1 ht
  have hk := elT_spec he'
  obtain ⟨⟨A, c, rfl, _, ⟨rfl, rfl⟩ | ⟨a, rfl, ha⟩⟩, h2, h3⟩ := h
  · have : us = [] := List.eq_nil_of_length_eq_zero (by rw [h2]; simp)
    subst this
    exact Src.ofNil w hk c
  · exact Src.ofSlice w hk a m c us h2 ha h3
theorem SrcAt.first {z : Nat} {v : Value} {m : Nat} {us : List Value} (h : SrcAt w z v m us) {q : Nat} (hq : q ≤ m) : (Builtin.firstCells z q v).run P w = .ok (us.take (q * z)).toArray w := by
  obtain ⟨⟨A, c, rfl, _, ⟨rfl, rfl⟩ | ⟨a, rfl, ha⟩⟩, h2, h3⟩ := h
  · have : us = [] := List.eq_nil_of_length_eq_zero (by rw [h2]; simp)
    subst this
    simp [run_firstCells_none]
  · refine run_firstCells_some w z q a m c _ (take_mul h2 hq) fun j u hu => ha j u ?_
    rw [List.getElem?_take] at hu
    split at hu
    · exact hu
    · cases hu
theorem SrcAt.lenOf {z : Nat} {v : Value} {m : Nat} {us : List Value} (h : SrcAt w z v m us) (w' : World) : (Builtin.lenOf v).run P w' = .ok m w' := by
  obtain ⟨⟨A, c, rfl, _⟩, _⟩ := h
  rfl
theorem win_live (hM : Mem P base S η w) {k off n c : Nat} {t : TypeId} {cs : List D} {v : Value} (hk : S.ob k = some (.box t cs)) (hr : Rep P w η (Fix P S η) (.win k off n c) v) :
    ∃ b vs, v = .slice (some ⟨b, off, none⟩) n c ∧ η k = some (some b) ∧ w.heap[b]? = some (.cells vs.toArray t (0, 0)) ∧ RepL P w η (Fix P S η) cs vs ∧ (∀ x ∈ vs, x.oneCell' = true) ∧ n ≤ c ∧ n ≤ 140737488355328 := by
  obtain ⟨A, rfl, h2, h3, h4⟩ := hr.win_slice
  obtain ⟨b, hb⟩ := hM.live k t cs hk
  rcases h4 with ⟨b', h4, rfl⟩ | ⟨h4, _⟩
  · have : b' = b := by rw [hb] at h4; injection h4 with h4; injection h4 with h4; exact h4.symm
    subst this
    obtain ⟨vs, g1, g2, g3⟩ := hM.box k t cs b' hk hb
    exact ⟨b', vs, rfl, h4, g1, g2, g3, h2, h3⟩
  · rw [hb] at h4; cases h4
theorem splice_len {cs ds : List D} {off : Nat} (h : off + ds.length ≤ cs.length) : (splice cs off ds).length = cs.length := by
  simp only [splice, List.length_append, List.length_take, List.length_drop]
  omega
theorem one_splice {vs us : List Value} {off : Nat} (h : ∀ x ∈ vs, x.oneCell' = true) (k : ∀ x ∈ us, x.oneCell' = true) : ∀ x ∈ vs.take off ++ us ++ vs.drop (off + us.length), x.oneCell' = true := fun u hu => by
  rcases List.mem_append.1 hu with hu | hu
  · rcases List.mem_append.1 hu with hu | hu
    · exact h u (List.mem_of_mem_take hu)
    · exact k u hu
  · exact h u (List.mem_of_mem_drop hu)
theorem dcopy_win {t tx ty e : TypeId} (he : elT P t = some e) (hi : (P.info? e).isSome = true) {k off n c m : Nat} {bt : TypeId} {cs news : List D} {y : D} {K : D → St → Prop} (hk : S.ob k = some (.box bt cs)) (hs : SrcOk S (szOf P e) y m news) (hfit : off + Nat.min m n * szOf P e ≤ cs.length)
    {cs' : List D} (hcs : splice cs off (news.take (Nat.min m n * szOf P e)) = cs') (h : K (.v (.int .i64 (Nat.min m n : Nat))) (S.set k (.box bt cs'))) : dcopy P #[t, tx] ty (.win k off n c) y S K := by
  subst hcs
  intro base η w vs hM hr
  simp only [RepL] at hr
  obtain ⟨x1, _, rfl, r1, x2, _, rfl, r2, rfl⟩ := hr
  obtain ⟨us, s1, s2⟩ := srcOk_at hM hs r2
  obtain ⟨b, bs, rfl, hb, g1, g2, g3, g4, g5⟩ := win_live hM hk r1
  obtain ⟨i, hi⟩ := Option.isSome_iff_exists.1 hi
  have hsz : szOf P e = i.size := by simp [szOf, hi]
  have hu := elT_spec he
  have hl := g2.length
  have hul := take_mul s1.len (Nat.min_le_left m n)
  have hf := s1.first (P := P) (Nat.min_le_left m n)
  have h1 : ∀ u ∈ us.take (Nat.min m n * szOf P e), u.oneCell' = true := fun u hu => s1.one u (List.mem_of_mem_take hu)
  have hst := run_storeCells_at P b off bt (us.take (Nat.min m n * szOf P e)) 0 bs.toArray w g1 (by rw [Nat.add_zero, hul, List.size_toArray, hl]; exact hfit) h1
  simp only [Nat.add_zero] at hst
  have hnl := take_mul hs.length (Nat.min_le_left m n)
  have G := goes_set hM hk hb (splice_len (by rw [hnl]; exact hfit)) (splice_rep g2 (s2.take (Nat.min m n * szOf P e))) (one_splice g3 h1)
  refine ⟨_, _, η, .int .i64 (Nat.min m n : Nat), _, ?_, h, by simp only [Rep], G⟩
  rw [hsz] at hf hst ⊢
  simp [Builtin.copy_, run_underlying hu, s1.lenOf, sizeOf, typeInfo, hi, hf, hst, goInt]
theorem run_append_room_at (w : World) (t tx ty e : TypeId) (i : TypeInfo) (ht : P.underlying t = some (.slice e)) (hi : P.info? e = some i) (b off sLen sCap : Nat) (bt : TypeId) (x : Value) (n : Nat) (news : List Value) (hs : Src P i.size tx x n news w)
    (cur : Array Value) (hg : w.heap[b]? = some (.cells cur bt (0, 0))) (hroom : sLen + n ≤ sCap) (hfit : off + sLen * i.size + news.length ≤ cur.size) :
    (Builtin.append_ #[t, tx] ty #[.slice (some ⟨b, off, none⟩) sLen sCap, x]).run P w = .ok (.slice (some ⟨b, off, none⟩) (sLen + n) sCap) (w.setRow b (cur.toList.take (off + sLen * i.size) ++ news ++ cur.toList.drop (off + sLen * i.size + news.length)).toArray) := by
  have hst := run_storeCells_at P b (off + sLen * i.size) bt news 0 cur w hg (by simpa using hfit) hs.one
  simp only [Nat.add_zero] at hst
  rcases hs.kind with ⟨e', hk⟩ | hk <;> simp [Builtin.append_, run_underlying ht, run_underlying hk, sizeOf, typeInfo, hi, hs.len, hroom, hs.cells, Addr.add_lit, hst]
def dappW (P : Program) (t tx ty : TypeId) (x y : D) (S : St) (K : D → St → Prop) : Prop := DRun P (fun vs => Builtin.append_ #[t, tx] ty vs.toArray) [x, y] S K
theorem dapp_atw {t tx ty : TypeId} {k off n c : Nat} {y : D} {K : D → St → Prop} : dapp P S t tx ty (.win k off n c) y K = dappW P t tx ty (.win k off n c) y S K := rfl
attribute [go_sem] dapp_atw
theorem dapp_nil {t tx ty e : TypeId} {own o2 : Own} {es es2 : List D} {K : D → St → Prop} (he : elT P t = some e) (h : dappW P t tx ty (.sl own es) (.sl o2 es2) S K) : dapp P S t tx ty (.sl own es) (.sl o2 es2) K := dapp_step he h
theorem dappend_in {t tx ty e : TypeId} (he : elT P t = some e) (hx : (elT P tx).isSome = true) (hi : (P.info? e).isSome = true) {k off n c m : Nat} {bt : TypeId} {cs news : List D} {y : D} {K : D → St → Prop} (hk : S.ob k = some (.box bt cs)) (hs : SrcOk S (szOf P e) y m news)
    (hroom : n + m ≤ c) (hb : n + m ≤ 140737488355328) (hfit : off + (n + m) * szOf P e ≤ cs.length) {cs' : List D} (hcs : splice cs (off + n * szOf P e) news = cs') (h : K (.win k off (n + m) c) (S.set k (.box bt cs'))) : dappW P t tx ty (.win k off n c) y S K := by
  subst hcs
  intro base η w vs hM hr
  simp only [RepL] at hr
  obtain ⟨x1, _, rfl, r1, x2, _, rfl, r2, rfl⟩ := hr
  obtain ⟨us, s1, s2⟩ := srcOk_at hM hs r2
  obtain ⟨b, bs, rfl, hbb, g1, g2, g3, g4, g5⟩ := win_live hM hk r1
  obtain ⟨i, hi⟩ := Option.isSome_iff_exists.1 hi
  have hsz : szOf P e = i.size := by simp [szOf, hi]
  have hu := elT_spec he
  have hl := g2.length
  have hf : off + n * szOf P e + us.length ≤ bs.toArray.size := by
    rw [s1.len, List.size_toArray, hl, Nat.add_assoc, ← Nat.add_mul]; exact hfit
  have hrun := run_append_room_at (P := P) w t tx ty e i hu hi b off n c bt x2 m us (hsz ▸ s1.src hx) bs.toArray g1 hroom (hsz ▸ hf)
  have G := goes_set hM hk hbb (splice_len (by rw [hs.length, Nat.add_assoc, ← Nat.add_mul]; exact hfit)) (splice_rep g2 s2) (one_splice (off := off + n * szOf P e) g3 s1.one)
  refine ⟨_, _, η, _, _, hrun, h, by simp only [Rep]; exact .inl ⟨b, hbb, rfl, hroom, hb⟩, ?_⟩
  rw [← hsz]
  exact G
theorem dappend_new {t tx ty e : TypeId} (he : elT P t = some e) (hx : (elT P tx).isSome = true) (hz : zeroT P e = true) (hz2 : zeroOk P e = true) {n c m : Nat} {x : D} {olds news : List D} {y : D} {K : D → St → Prop} (ho : SrcOk S (szOf P e) x n olds) (hxc : ∀ k' off' n' c', x = .win k' off' n' c' → c' = c) (hxs : ∀ o es, x = .sl o es → o = .full ∧ c = es.length) (hs : SrcOk S (szOf P e) y m news)
    (hgrow : c < n + m) (hb : n + m ≤ 140737488355328) (hby : (n + m) * bytesOf P e ≤ 140737488355328)
    (h : ∀ (c' : Nat) (zs : List D), n + m ≤ c' → (olds ++ news ++ zs).length = c' * szOf P e → K (.win S.next 0 (n + m) c') (S.add (.box e (olds ++ news ++ zs)))) : dappW P t tx ty x y S K := by
  intro base η w vs hM hr
  simp only [RepL] at hr
  obtain ⟨x1, _, rfl, r1, x2, _, rfl, r2, rfl⟩ := hr
  obtain ⟨us, s1, s2⟩ := srcOk_at hM hs r2
  obtain ⟨os, o1, o2⟩ := srcOk_at hM ho r1
  obtain ⟨i, z, hi, hzr, hzs, hpos, hsz, hbz⟩ := zeroT_spec hz
  obtain ⟨z2, i2, hi2, hz2r, _, hz1, _⟩ := zeroOk_spec hz2
  rw [hi] at hi2
  injection hi2 with hi2
  subst hi2
  rw [hzr] at hz2r
  injection hz2r with hz2r
  subst hz2r
  have hu := elT_spec he
  have hel : (elT P t).isSome = true := by rw [he]; rfl
  obtain ⟨A, cc, e1, _, _⟩ := o1.sl
  have hcc : cc = c := by
    cases x with
    | win k' off' n' c' =>
      obtain ⟨A', e2, _⟩ := r1.win_slice
      rw [e1] at e2
      injection e2 with _ _ e2
      rw [e2]
      exact hxc _ _ _ _ rfl
    | sl o es =>
      obtain ⟨rfl, rfl⟩ := hxs _ _ rfl
      simp only [Rep, OwnAt] at r1
      obtain ⟨A', c', e2, _, _, rfl, _⟩ := r1
      rw [e1] at e2
      injection e2 with _ _ e2
    | _ => exact ho.elim
  subst hcc
  subst e1
  have hso := o1.src hel
  have hsn := s1.src hx
  rw [hsz] at hso hsn
  have hcold := hso.cellsD
  have hrun := run_append_grow_src (P := P) w t tx ty e i z hu hi hzr A n cc os hcold x2 m us hsn hgrow (by omega) (growslice_fits hgrow (by rw [← hbz]; exact hby))
  have G1 := goes_drew hM
  have hge := grownCap_ge w (n + m) cc e
  have G3 := G1.trans (goes_name G1.mem (.box e (olds ++ news ++ (Builtin.zeroCells z.cells (grownCap w (n + m) cc e - (n + m))).toList.map ofV)) ((os ++ us).toArray ++ Builtin.zeroCells z.cells (grownCap w (n + m) cc e - (n + m))) e
    (.inl ⟨_, os ++ us ++ (Builtin.zeroCells z.cells (grownCap w (n + m) cc e - (n + m))).toList, rfl, by apply Array.ext'; simp, RepL.append (RepL.append (G1.repL o2) (G1.repL s2)) (zeroD_rep _), fun u hu' => (List.mem_append.1 hu').elim (fun hh => (List.mem_append.1 hh).elim (o1.one u) (s1.one u)) fun hh => hz1 u (zeroCells_mem hh)⟩))
  refine ⟨_, _, _, _, _, hrun, h _ _ hge ?_, ?_, G3⟩
  · have e1 := size_zeroCells z.cells (grownCap w (n + m) cc e - (n + m))
    rw [← Array.length_toList] at e1
    rw [List.length_append, List.length_append, List.length_map, ho.length, hs.length, e1, hzs, hsz, ← Nat.add_mul, ← Nat.add_mul]
    congr 1
    omega
  · simp only [Rep]
    exact .inl ⟨w.heap.size, by simp only [Names.add, ↓reduceIte]; rfl, rfl, hge, hb⟩
/-! ### Owned slices -/
theorem DRun.thaw {run : List Value → Sem Value} {args : List D} {K : D → St → Prop} (h : DRun P run args S fun d S' => ∃ S1 d1, Thaw P S' d S1 d1 ∧ K d1 S1) : DRun P run args S K := fun base η w vs hM hr => by
  obtain ⟨d, S', η', v, w', h1, ⟨S1, d1, h2, h3⟩, h4, h5⟩ := h base η w vs hM hr
  obtain ⟨η2, k1, k2⟩ := h2 base η' w' v h5.mem h4
  exact ⟨d1, S1, η2, v, w', h1, h3, k2, h5.trans k1⟩
theorem DCalls.thaw {g : FuncId} {args : List D} {K : D → St → Prop} (h : DCalls P g args S fun d S' => ∃ S1 d1, Thaw P S' d S1 d1 ∧ K d1 S1) : DCalls P g args S K := fun base η w vs hM hr => by
  rcases h base η w vs hM hr with ⟨h1, h2⟩ | ⟨d, S', η', v, w', h1, ⟨S1, d1, h2, h3⟩, h4, h5⟩
  · refine .inl ⟨h1, h2.mono fun e w' ⟨d, S', η', v, ⟨S1, d1, h2, h3⟩, he, h4, h5⟩ => ?_⟩
    obtain ⟨η2, k1, k2⟩ := h2 base η' w' v h5.mem h4
    exact ⟨d1, S1, η2, v, h3, he, k2, h5.trans k1⟩
  · obtain ⟨η2, k1, k2⟩ := h2 base η' w' v h5.mem h4
    exact .inr ⟨d1, S1, η2, v, w', h1, h3, k2, h5.trans k1⟩
theorem goes_rename (h : Mem P base S η w) {k : Nat} {o : Ob} {b : Option Nat} (hk : S.ob k = some o) (hb : η k = some b) : Goes P base S η w ((S.drop k).add o) (η.add S.next b) w := by
  have hkn : k < S.next := h.lt (by rw [hb]; rfl)
  have ob_new : ((S.drop k).add o).ob S.next = some o := by simp [St.add, St.drop]
  have ob_old : ∀ j, j ≠ S.next → ((S.drop k).add o).ob j = if j = k then none else S.ob j := fun j hj => by simp [St.add, St.drop, hj]
  have ob_some : ∀ j o', ((S.drop k).add o).ob j = some o' → (j = S.next ∧ o' = o) ∨ (j ≠ S.next ∧ j ≠ k ∧ S.ob j = some o') := fun j o' hj => by
    by_cases e : j = S.next
    · subst e; rw [ob_new] at hj; injection hj with hj; exact .inl ⟨rfl, hj.symm⟩
    · rw [ob_old j e] at hj
      by_cases e2 : j = k
      · rw [if_pos e2] at hj; cases hj
      · rw [if_neg e2] at hj; exact .inr ⟨e, e2, hj⟩
  have eta_new : (η.add S.next b) S.next = some b := by simp [Names.add]
  have eta_old : ∀ j, j ≠ S.next → (η.add S.next b) j = η j := fun j hj => by simp [Names.add, hj]
  have K : Keep (fun _ => True) w η (Fix P S η) w (η.add S.next b) (Fix P ((S.drop k).add o) (η.add S.next b)) := by
    refine ⟨Nat.le_refl _, fun q i _ hx => ⟨fun j o' hj ho => ?_, rfl⟩, fun j c _ hj => ?_, fun q cur e hq => ⟨cur, hq, rfl⟩⟩
    · rcases ob_some j o' ho with ⟨rfl, rfl⟩ | ⟨e1, e2, e3⟩
      · rw [eta_new] at hj
        injection hj with hj
        exact hx k o' (by rw [hb, hj]) hk
      · rw [eta_old j e1] at hj
        exact hx j o' hj e3
    · have : j ≠ S.next := fun e => by subst e; rw [h.dead _ (Nat.le_refl _)] at hj; cases hj
      rw [eta_old j this]; exact hj
  have src : ∀ j b', (η.add S.next b) j = some (some b') → (((S.drop k).add o).ob j).isSome = true → ∃ j', η j' = some (some b') ∧ (S.ob j').isSome = true ∧ ((j = S.next ∧ j' = k) ∨ (j ≠ S.next ∧ j ≠ k ∧ j' = j)) := fun j b' hj ho => by
    obtain ⟨o', ho⟩ := Option.isSome_iff_exists.1 ho
    rcases ob_some j o' ho with ⟨rfl, rfl⟩ | ⟨e1, e2, e3⟩
    · rw [eta_new] at hj
      injection hj with hj
      exact ⟨k, by rw [hb, hj], by rw [hk]; rfl, .inl ⟨rfl, rfl⟩⟩
    · rw [eta_old j e1] at hj
      exact ⟨j, hj, by rw [e3]; rfl, .inr ⟨e1, e2, rfl⟩⟩
  refine ⟨⟨h.base_, fun j hj => ?_, fun j hj => ?_, fun j t cs hj => ?_, fun j j' b' h1 h2 h3 h4 => ?_, fun j b' hj => ?_, fun j t cs b' h1 h2 => ?_, fun j e n b' h1 h2 => ?_, h.glob⟩, K, Below.refl _ _⟩
  · have hj' : S.next + 1 ≤ j := hj
    rw [eta_old j (by omega)]; exact h.dead j (by omega)
  · have hj' : S.next + 1 ≤ j := hj
    rw [ob_old j (by omega), if_neg (by omega)]; exact h.fresh j (by omega)
  · rcases ob_some j _ hj with ⟨rfl, rfl⟩ | ⟨e1, e2, e3⟩
    · obtain ⟨b', hb'⟩ := h.live k t cs hk
      rw [hb] at hb'
      injection hb' with hb'
      exact ⟨b', by rw [eta_new, hb']⟩
    · obtain ⟨b', hb'⟩ := h.live j t cs e3
      exact ⟨b', by rw [eta_old j e1]; exact hb'⟩
  · obtain ⟨i, a1, a2, a3⟩ := src j b' h1 h3
    obtain ⟨i', c1, c2, c3⟩ := src j' b' h2 h4
    have := h.inj i i' b' a1 c1 a2 c2
    rcases a3 with ⟨rfl, rfl⟩ | ⟨a3, a4, rfl⟩ <;> rcases c3 with ⟨rfl, rfl⟩ | ⟨c3, c4, rfl⟩
    · rfl
    · exact absurd this.symm c4
    · exact absurd this a4
    · exact this
  · by_cases e : j = S.next
    · subst e
      rw [eta_new] at hj
      injection hj with hj
      exact h.in_ k b' (by rw [hb, hj])
    · rw [eta_old j e] at hj; exact h.in_ j b' hj
  · rcases ob_some j _ h1 with ⟨rfl, rfl⟩ | ⟨e1, e2, e3⟩
    · rw [eta_new] at h2
      injection h2 with h2
      obtain ⟨vs, k1, k2, k3⟩ := h.box k t cs b' hk (by rw [hb, h2])
      exact ⟨vs, k1, RepL.keep K (allL_true _) k2, k3⟩
    · rw [eta_old j e1] at h2
      obtain ⟨vs, k1, k2, k3⟩ := h.box j t cs b' e3 h2
      exact ⟨vs, k1, RepL.keep K (allL_true _) k2, k3⟩
  · rcases ob_some j _ h1 with ⟨rfl, rfl⟩ | ⟨e1, e2, e3⟩
    · rw [eta_new] at h2
      injection h2 with h2
      exact h.row k e n b' hk (by rw [hb, h2])
    · rw [eta_old j e1] at h2
      exact h.row j e n b' e3 h2
theorem thaw_rename {k off n c : Nat} {o : Ob} (hk : S.ob k = some o) : Thaw P S (.win k off n c) ((S.drop k).add o) (.win S.next off n c) := fun base η w v hM hr => by
  simp only [Rep] at hr
  rcases hr with ⟨b, h1, h2⟩ | ⟨h1, h2⟩
  · exact ⟨_, goes_rename hM hk h1, by simp only [Rep]; exact .inl ⟨b, by simp [Names.add], h2⟩⟩
  · exact ⟨_, goes_rename hM hk h1, by simp only [Rep]; exact .inr ⟨by simp [Names.add], h2⟩⟩
theorem thaw_drop (k : Nat) (d : D) : Thaw P S d (S.drop k) d := fun base η w v hM hr => ⟨η, goes_drop hM k, (goes_drop hM k).rep hr⟩
theorem thaw_nil (e : TypeId) : Thaw P S (.sl .full []) (S.add (.row e 0)) (.win S.next 0 0 0) := fun base η w v hM hr => by
  simp only [Rep, OwnAt] at hr
  obtain ⟨A, c, rfl, _, _, rfl, _⟩ := hr
  refine ⟨_, goes_bare hM e 0, ?_⟩
  unfold Rep
  exact .inr ⟨by simp [Names.add], rfl, rfl, A, rfl⟩
theorem St.set_drop (S : St) (k : Nat) (o : Ob) : (S.set k o).drop k = S.drop k := by
  unfold St.set St.drop
  congr 1
  funext j
  by_cases h : j = k <;> simp [h]
theorem St.add_set (S : St) (o o' : Ob) : (S.add o).set S.next o' = S.add o' := by
  unfold St.set St.add
  congr 1
  funext j
  by_cases h : j = S.next <;> simp [h]
theorem St.set_set (S : St) (k : Nat) (o o' : Ob) : (S.set k o).set k o' = S.set k o' := by
  unfold St.set
  congr 1
  funext j
  by_cases h : j = k <;> simp [h]
theorem St.add_drop (S : St) {k : Nat} (o : Ob) (h : k < S.next) : (S.add o).drop k = (S.drop k).add o := by
  unfold St.add St.drop
  congr 1
  funext j
  by_cases h1 : j = k
  · subst h1
    simp
    omega
  · simp [h1]
theorem flat_append (l m : List D) : flat (l ++ m) = flat l ++ flat m := by simp [flat]
theorem ownOb_len {es zs : List D} {c z : Nat} (hw : ∀ d ∈ es, d.width = z) (hz : 0 < z) (h : (flat es ++ zs).length = c * z) : es.length ≤ c := by
  rw [List.length_append, dflat_length hw] at h
  rcases Nat.lt_or_ge c es.length with h' | h'
  · have : (c + 1) * z ≤ es.length * z := Nat.mul_le_mul_right _ h'
    rw [Nat.add_mul] at this
    omega
  · exact h'
theorem flat_take {es : List D} {z : Nat} (hw : ∀ d ∈ es, d.width = z) (q : Nat) : (flat es).take (q * z) = flat (es.take q) := by
  induction es generalizing q with
  | nil => simp [flat]
  | cons d es ih =>
    cases q with
    | zero => simp [flat]
    | succ q =>
      have h1 : d.cells.length = z := hw d (by simp)
      have h2 := ih (fun x hx => hw x (by simp [hx])) q
      have e1 : flat (d :: es) = d.cells ++ flat es := by simp [flat]
      have e2 : flat (d :: es.take q) = d.cells ++ flat (es.take q) := by simp [flat]
      rw [e1, List.take_succ_cons, e2, ← h2, List.take_append, h1, List.take_of_length_le (by rw [h1, Nat.add_mul]; omega)]
      congr 2
      rw [Nat.add_mul]; omega
theorem flat_drop {es : List D} {z : Nat} (hw : ∀ d ∈ es, d.width = z) (q : Nat) : (flat es).drop (q * z) = flat (es.drop q) := by
  induction es generalizing q with
  | nil => simp [flat]
  | cons d es ih =>
    cases q with
    | zero => simp
    | succ q =>
      have h1 : d.cells.length = z := hw d (by simp)
      have h2 := ih (fun x hx => hw x (by simp [hx])) q
      have e1 : flat (d :: es) = d.cells ++ flat es := by simp [flat]
      rw [e1, List.drop_succ_cons, ← h2, List.drop_append, h1, List.drop_of_length_le (by rw [h1, Nat.add_mul]; omega), List.nil_append]
      congr 1
      rw [Nat.add_mul]; omega
theorem srcOk_own {k c : Nat} {e : TypeId} {es zs : List D} {z : Nat} (hk : S.ob k = some (ownOb e es zs c)) (hc : es.length ≤ c) (hw : ∀ d ∈ es, d.width = z) {l n : Nat} (hq : l + n ≤ es.length) {c' : Nat} : SrcOk S z (.win k (l * z) n c') n (flat ((es.drop l).take n)) := by
  refine ⟨rfl, ?_⟩
  rcases Nat.eq_zero_or_pos c with rfl | h
  · have : es = [] := List.eq_nil_of_length_eq_zero (by omega)
    subst this
    have : n = 0 := by simp at hq; omega
    subst this
    exact .inl ⟨rfl, by simp [flat]⟩
  · rw [ownOb_box h] at hk
    have hf := dflat_length hw
    have hle : (l + n) * z ≤ es.length * z := Nat.mul_le_mul_right _ hq
    rw [Nat.add_mul] at hle
    refine .inr ⟨e, _, hk, ?_, ?_⟩
    · rw [List.length_append, hf]; omega
    · rw [List.drop_append_of_le_length (by rw [hf]; omega), List.take_append_of_le_length (by rw [List.length_drop, hf]; omega), flat_drop hw, flat_take fun d hd => hw d (List.mem_of_mem_drop hd)]
theorem srcOk_own0 {k c : Nat} {e : TypeId} {es zs : List D} {z : Nat} (hk : S.ob k = some (ownOb e es zs c)) (hc : es.length ≤ c) (hw : ∀ d ∈ es, d.width = z) {q : Nat} (hq : q ≤ es.length) {c' : Nat} : SrcOk S z (.win k 0 q c') q (flat (es.take q)) := by
  have := srcOk_own hk hc hw (l := 0) (n := q) (by omega) (c' := c')
  rwa [Nat.zero_mul, List.drop_zero] at this
theorem srcOk_ownA {k c : Nat} {e : TypeId} {es zs : List D} {z : Nat} (hk : S.ob k = some (ownOb e es zs c)) (hc : es.length ≤ c) (hw : ∀ d ∈ es, d.width = z) {c' : Nat} : SrcOk S z (.win k 0 es.length c') es.length (flat es) := by
  have := srcOk_own0 hk hc hw (Nat.le_refl _) (c' := c')
  rwa [List.take_of_length_le (Nat.le_refl _)] at this
theorem zeroT_pos {e : TypeId} (h : zeroT P e = true) : 0 < szOf P e ∧ (P.info? e).isSome = true := by
  obtain ⟨i, z, hi, _, _, hp, hs, _⟩ := zeroT_spec h
  exact ⟨by omega, by rw [hi]; rfl⟩
theorem dappend_own {t tx ty e : TypeId} (he : elT P t = some e) (hx : (elT P tx).isSome = true) (hz : zeroT P e = true) (hz2 : zeroOk P e = true) {k c m : Nat} {es es2 zs : List D} {y : D} {K : D → St → Prop} (hk : S.ob k = some (ownOb e es zs c)) (hl : (flat es ++ zs).length = c * szOf P e) (hw1 : ∀ d ∈ es, d.width = szOf P e) (hs : SrcOk S (szOf P e) y m (flat es2)) (hm : m = es2.length)
    (hb : es.length + es2.length ≤ 140737488355328) (hby : (es.length + es2.length) * bytesOf P e ≤ 140737488355328) (hkn : k < S.next)
    (h : ∀ (c' : Nat) (zs' : List D), es.length + es2.length ≤ c' → (flat (es ++ es2) ++ zs').length = c' * szOf P e → K (.win S.next 0 (es.length + es2.length) c') ((S.drop k).add (ownOb e (es ++ es2) zs' c'))) : dappW P t tx ty (.win k 0 es.length c) y S K := by
  subst hm
  obtain ⟨hzp, hi⟩ := zeroT_pos hz
  have hc := ownOb_len hw1 hzp hl
  refine DRun.thaw ?_
  by_cases hroom : es.length + es2.length ≤ c
  · rcases Nat.eq_zero_or_pos c with rfl | hpos
    · have e1 : es = [] := List.eq_nil_of_length_eq_zero (by omega)
      have e2 : es2 = [] := List.eq_nil_of_length_eq_zero (by omega)
      subst e1 e2
      rw [ownOb_nil] at hk
      intro base η w vs hM hr
      simp only [RepL] at hr
      obtain ⟨x1, _, rfl, r1, x2, _, rfl, r2, rfl⟩ := hr
      obtain ⟨us, s1, s2⟩ := srcOk_at hM hs r2
      have hus : us = [] := List.eq_nil_of_length_eq_zero (by rw [s1.len]; simp)
      subst hus
      obtain ⟨i, hi⟩ := Option.isSome_iff_exists.1 hi
      have hsz : szOf P e = i.size := by simp [szOf, hi]
      obtain ⟨A, rfl, _⟩ := r1.win_slice
      have hsrc := s1.src hx
      rw [hsz] at hsrc
      refine ⟨_, S, η, _, w, run_append_nothing w t tx ty e i (elT_spec he) hi A _ _ (Nat.le_refl _) x2 hsrc, ?_, r1, Goes.refl hM⟩
      exact ⟨_, _, thaw_rename hk, h 0 [] (Nat.le_refl _) (by simp [flat])⟩
    · have hk' := hk
      rw [ownOb_box hpos] at hk'
      have hfl := dflat_length hw1
      refine dappend_in he hx hi hk' hs hroom hb (by rw [Nat.zero_add, hl]; exact Nat.mul_le_mul_right _ hroom) rfl ?_
      refine ⟨_, _, thaw_rename (o := .box e (splice (flat es ++ zs) (0 + es.length * szOf P e) (flat es2))) (by simp [St.set]), ?_⟩
      have hsp : splice (flat es ++ zs) (0 + es.length * szOf P e) (flat es2) = flat (es ++ es2) ++ zs.drop (es2.length * szOf P e) := by
        rw [Nat.zero_add, ← hfl, flat_append]
        unfold splice
        rw [List.take_append_of_le_length (Nat.le_refl _), List.take_of_length_le (Nat.le_refl _), List.drop_append, hs.length]
        simp
      have h2 := h c (zs.drop (es2.length * szOf P e)) hroom (by
        rw [← hsp, splice_len, hl]
        rw [Nat.zero_add, hs.length, hl, ← Nat.add_mul]
        exact Nat.mul_le_mul_right _ hroom)
      rw [ownOb_box hpos, ← hsp] at h2
      rw [St.set_drop]
      exact h2
  · refine dappend_new he hx hz hz2 (srcOk_ownA hk hc hw1) (fun _ _ _ _ e => by injection e with _ _ _ e; exact e.symm) (fun _ _ e => by cases e) hs (by omega) hb hby fun c' zs hc' hl' => ?_
    refine ⟨_, _, thaw_drop k _, ?_⟩
    rw [St.add_drop S _ hkn]
    have := h c' zs hc' (by rw [flat_append]; exact hl')
    rw [ownOb_box (by omega), flat_append] at this
    exact this
theorem dappend_fresh {t tx ty e : TypeId} (he : elT P t = some e) (hx : (elT P tx).isSome = true) (hz : zeroT P e = true) (hz2 : zeroOk P e = true) {m : Nat} {es2 : List D} {y : D} {K : D → St → Prop} (hs : SrcOk S (szOf P e) y m (flat es2)) (hm : m = es2.length)
    (hb : es2.length ≤ 140737488355328) (hby : es2.length * bytesOf P e ≤ 140737488355328)
    (h : ∀ (c' : Nat) (zs' : List D), es2.length ≤ c' → (flat es2 ++ zs').length = c' * szOf P e → K (.win S.next 0 es2.length c') (S.add (ownOb e es2 zs' c'))) : dappW P t tx ty (.sl .full []) y S K := by
  subst hm
  obtain ⟨hzp, hi⟩ := zeroT_pos hz
  rcases Nat.eq_zero_or_pos es2.length with h0 | hpos
  · have e2 : es2 = [] := List.eq_nil_of_length_eq_zero h0
    subst e2
    refine DRun.thaw ?_
    intro base η w vs hM hr
    simp only [RepL] at hr
    obtain ⟨x1, _, rfl, r1, x2, _, rfl, r2, rfl⟩ := hr
    obtain ⟨us, s1, s2⟩ := srcOk_at hM hs r2
    have hus : us = [] := List.eq_nil_of_length_eq_zero (by rw [s1.len]; simp)
    subst hus
    obtain ⟨i, hi⟩ := Option.isSome_iff_exists.1 hi
    have hsz : szOf P e = i.size := by simp [szOf, hi]
    have hsrc := s1.src hx
    rw [hsz] at hsrc
    have r1' := r1
    simp only [Rep, OwnAt] at r1'
    obtain ⟨A, c, rfl, _, _, rfl, _⟩ := r1'
    refine ⟨_, S, η, _, w, run_append_nothing w t tx ty e i (elT_spec he) hi A _ _ (Nat.le_refl _) x2 hsrc, ?_, r1, Goes.refl hM⟩
    exact ⟨_, _, thaw_nil e, h 0 [] (Nat.le_refl _) (by simp [flat])⟩
  · refine dappend_new he hx hz hz2 (n := 0) (c := 0) (olds := []) ⟨(fun _ hx => by cases hx), rfl, rfl⟩ (fun _ _ _ _ e => by cases e) (fun _ _ e => by injection e with e1 e2; subst e1 e2; exact ⟨rfl, rfl⟩) hs (by omega) (by omega) (by rw [Nat.zero_add]; exact hby) fun c' zs hc' hl' => ?_
    simp only [List.nil_append, Nat.zero_add] at hc' hl' ⊢
    have := h c' zs hc' hl'
    rw [ownOb_box (by omega)] at this
    exact this
end
end Go.Proofs.YtbcabejdchkpmaaGreatDoor

namespace Go.Proofs.YtbcabejdchkpmaaGreatDoor
open Go.RowKit
def vkindB (v : DVal) : UInt8 := UInt8.ofNat v.kind.toNat
def vheadB (v : DVal) : List UInt8 := vkindB v :: (if v.kind = 1 then [if v.n = 1 then 1 else 0] else if v.kind = 2 then numB (zig v.n) else if v.kind = 3 ∨ v.kind = 4 then numB v.s.length ++ v.s else numB v.parts.length)
def vkeyB (v : DVal) (i : Nat) : List UInt8 := if v.kind = 5 then numB (v.names.getD i []).length ++ v.names.getD i [] else numB (v.ids.getD i 0)
def bytesV : Nat → DVal → List UInt8
  | 0, _ => []
  | m + 1, v => vheadB v ++ (List.range v.parts.length).flatMap fun i => vkeyB v i ++ bytesV m (v.parts.getD i default)
def vpartB (m : Nat) (v : DVal) (i : Nat) : List UInt8 := (List.range i).flatMap fun i => vkeyB v i ++ bytesV m (v.parts.getD i default)
theorem vpartB_succ (m : Nat) (v : DVal) (i : Nat) : vpartB m v (i + 1) = vpartB m v i ++ (vkeyB v i ++ bytesV m (v.parts.getD i default)) := by
  unfold vpartB
  rw [List.range_succ, List.flatMap_append]
  simp
theorem isU64 {n : Nat} (h : U64 (n : Int)) : IsU64 n := by have := bounds_u64 h; unfold IsU64; omega
theorem isI64 {n : Int} (h : I64 n) : IsI64 n := by have := bounds_i64 h; unfold IsI64; omega
structure VFa (v : DVal) : Prop where
  kind : 1 ≤ v.kind ∧ v.kind ≤ 6
  s : v.s.length ≤ 64
  names : ∀ x ∈ v.names, x.length ≤ 12
  nn : v.names.length ≤ 8
  ni : v.ids.length ≤ 12
theorem RV.facts {v : DVal} (h : RV v) : VFa v := by
  obtain ⟨m, h1, h2⟩ := h
  obtain ⟨m, rfl⟩ : ∃ n, m = n + 1 := ⟨m - 1, by have := v.depth_pos; omega⟩
  rw [soundV, Bool.and_eq_true, hereV, Bool.and_eq_true, Bool.and_eq_true, Bool.not_eq_true', Bool.not_eq_true', decide_eq_false_iff_not, decide_eq_false_iff_not] at h2
  have h3 := h2.1.1.1
  have h4 := h2.1.1.2
  have h5 := h2.1.2
  rw [Bool.and_eq_true] at h5
  have hn4 : v.kind = 4 → v.s.length ≤ 12 := fun e => by
    cases hb : nameB v.s with
    | false => unfold bad2 at h4; rw [hb] at h4; simp [e] at h4
    | true =>
      unfold nameB at hb
      rw [Bool.and_eq_true, decide_eq_true_eq] at hb
      exact hb.2.2
  have hnm : ∀ x ∈ v.names, x.length ≤ 12 := fun x hx => by
    obtain ⟨i, hi, rfl⟩ := List.getElem_of_mem hx
    have := List.all_eq_true.1 h5.1 i (List.mem_range.2 hi)
    unfold riseOk at this
    rw [Bool.and_eq_true] at this
    have h6 := this.1
    have e : v.names.getD i [] = v.names[i] := getD_at hi
    simp only [e] at h6
    unfold nameB at h6
    rw [Bool.and_eq_true, decide_eq_true_eq] at h6
    exact h6.2.2
  unfold bad1 at h3
  unfold bad2 at h4
  refine ⟨by omega, ?_, hnm, by omega, by omega⟩
  by_cases e3 : v.kind = 3
  · omega
  · by_cases e4 : v.kind = 4
    · have := hn4 e4; omega
    · omega
theorem vhead_len {v : DVal} (h : VFa v) (ho : okV v) : (vheadB v).length ≤ 80 := by
  have hp := (okV_eq v).1 ho
  have h1 := numB_length_le v.s.length (by have := h.s; omega)
  unfold vheadB
  split
  · simp
  · split
    · have := numB_length_le (zig v.n) (zig_u64 v.n (isI64 hp.2.1))
      simp only [List.length_cons]; omega
    · split
      · have := h.s
        simp only [List.length_cons, List.length_append]; omega
      · have := numB_length_le v.parts.length (by have := hp.2.2.2.2.2.2.2.1; omega)
        simp only [List.length_cons]; omega
theorem vkey_len {v : DVal} (h : VFa v) (ho : okV v) (i : Nat) : (vkeyB v i).length ≤ 30 := by
  have hp := (okV_eq v).1 ho
  unfold vkeyB
  split
  · have hx : (v.names.getD i []).length ≤ 12 := by
      rcases Nat.lt_or_ge i v.names.length with hi | hi
      · rw [getD_at hi]; exact h.names _ (List.getElem_mem hi)
      · rw [List.getD, List.getElem?_eq_none hi]; simp
    have := numB_length_le (v.names.getD i []).length (by omega)
    simp only [List.length_append]; omega
  · have hx : IsU64 (v.ids.getD i 0) := by
      rcases Nat.lt_or_ge i v.ids.length with hi | hi
      · rw [getD_at hi]
        have := hp.2.2.2.2.2.1 _ (List.getElem_mem hi)
        exact isU64 this
      · rw [List.getD, List.getElem?_eq_none hi]; simp [IsU64]
    have := numB_length_le (v.ids.getD i 0) hx
    omega
theorem weights_snoc (l : List DVal) (p : DVal) : DVal.weights (l ++ [p]) = DVal.weights l + p.weight := by
  induction l with
  | nil => simp [DVal.weights]
  | cons a l ihl => simp only [List.cons_append, DVal.weights, ihl]; omega
mutual
theorem bytesV_len : ∀ (m : Nat) (v : DVal), v.depth ≤ m → RV v → okV v → (bytesV m v).length ≤ 110 * v.weight
  | 0, v, h, _, _ => by have := v.depth_pos; omega
  | m + 1, v, hd, hr, ho => by
    have h0 := vhead_len hr.facts ho
    have hh := hr.here
    have hwe := v.weight_eq
    have h5 := vpart_len m v v.parts.length (Nat.le_refl _) hd hr ho
    rw [List.take_of_length_le (Nat.le_refl _)] at h5
    show (vheadB v ++ vpartB m v v.parts.length).length ≤ _
    rw [List.length_append]
    have := hh.2.2
    omega
  termination_by m _ => (m, 1, 0)
theorem vpart_len : ∀ (m : Nat) (v : DVal) (i : Nat), i ≤ v.parts.length → v.depth ≤ m + 1 → RV v → okV v → (vpartB m v i).length ≤ 110 * DVal.weights (v.parts.take i) + 30 * i
  | m, v, 0, _, _, _, _ => by simp [vpartB]
  | m, v, i + 1, hi, hd, hr, ho => by
    have h1 := vpart_len m v i (by omega) hd hr ho
    have h2 := vkey_len hr.facts ho i
    have hlt : i < v.parts.length := hi
    have hm := List.getElem_mem hlt
    have h3 := bytesV_len m v.parts[i] (by have := DVal.depth_part hm; omega) (hr.part hm) (((okV_eq v).1 ho).2.2.2.2.2.2.2.2 _ hm)
    have e : v.parts.getD i default = v.parts[i] := getD_at hlt
    rw [vpartB_succ, List.length_append, List.length_append, e, List.take_succ_eq_append_getElem hlt, weights_snoc]
    omega
  termination_by m _ i => (m, 2, i)
end
set_option maxRecDepth 200000 in
set_option maxHeartbeats 8000000 in
theorem valWrite_w (m : Nat) : ∀ (v : DVal) {S : St} {k : Nat} {bs : List UInt8} (hd : v.depth ≤ m) (hr : RV v) (ho : okV v) (hw : v.weight ≤ 100000) (hk : k < S.next) (h : WAt k bs S) (hb : bs.length + 200 * v.weight ≤ 1000000000),
    DCalls Tryz.prog 16 [.loc k 0, encV v] S fun d T => d = undefD ∧ WAt k (bs ++ bytesV m v) T ∧ WFr k S T := by
  induction m with
  | zero => intro v S k bs h; have := v.depth_pos; omega
  | succ m ih =>
    intro v S k bs hd hr ho hw hk h hb
    have hf := hr.facts
    have hh := hr.here
    have hp := (okV_eq v).1 ho
    have hwe := v.weight_eq
    have hpl := partsLen v
    have hkk := hf.kind
    refine dcalls_inline mixed Tryz.func16 rfl (fun _ _ => by kernel_rfl) (rs := []) rfl (by kernel_rfl) (fun hS => ?_)
    have wk : IntKind.u8.wrap v.kind = ((vkindB v).toNat : Int) := by
      rw [IntKind.wrap_u8]
      unfold vkindB
      rw [UInt8.toNat_ofNat']
      omega
    (simp (disch := first | decide | omega | (simp only [nx]; first | done | omega)) only [go_sem, encV_eq v, wk]; (repeat with_reducible refine aI ?_))
    refine (byte_w (vkindB v) (k := k) (by show k < S.next + 1; omega) (h.box (by show S.next ≤ S.next + 1; omega) hS (add_keep hS _)) (by omega)).wf.mono ?_
    rintro _ T0 ⟨⟨rfl, hW0, hF0⟩, hT0⟩
    have hx0 := hF0.box S.next 26 [.v (.int .i64 v.kind), .v (.int .i64 v.n), .v (sv v.s), .sl .no (v.names.map strD), .sl .no (v.ids.map u64D), .sl .no (v.parts.map encV)] (by omega) (by (first | (simp (disch := first | decide | omega | (simp only [nx]; first | done | omega)) only [go_sem]; first | done | rfl) | rfl))
    have hn0 : S.next + 1 ≤ T0.next := hF0.next
    have hFS : WFr k S T0 := (WFr.of_keep (by show S.next ≤ S.next + 1; omega) (add_keep hS _)).trans hF0
    have hempty : v.kind ≠ 5 → v.kind ≠ 6 → v.parts.length = 0 := fun h5 h6 => by have := hh.1 h5; have := hh.2.1 h6; omega
    have kne : ∀ n : Int, v.kind ≠ n → (v.kind == n) = false := fun n h => by simpa using h
    have keq : ∀ n : Int, v.kind = n → (v.kind == n) = true := fun n h => by simpa using h
    by_cases k1 : v.kind = 1
    · have np1 := hempty (by omega) (by omega)
      have np0 : decide ((0 : Int) < (v.parts.length : Int)) = false := by rw [np1]; decide
      have b1 := keq 1 k1
      (simp (disch := first | decide | omega | (simp only [nx]; first | done | omega)) only [go_sem, hx0, b1]; (repeat with_reducible refine aI ?_))
      refine (bool_w (v.n == 1) (k := k) (by omega) hW0 (by simp; omega)).wf.mono ?_
      rintro _ T1 ⟨⟨rfl, hW1, hF1⟩, hT1⟩
      have hx1 := hF1.box S.next _ _ (by omega) hx0
      (simp (disch := first | decide | omega | (simp only [nx]; first | done | omega)) only [go_sem, hx1]; (repeat with_reducible refine aI ?_))
      refine dloop_fuel 1 hT1 (by kernel_rfl) ?_
      rw [loopN_eq]
      (simp (disch := first | decide | omega | (simp only [nx]; first | done | omega)) only [go_sem, hx1, np0]; (repeat with_reducible refine aI ?_))
      refine ⟨?_, hFS.trans hF1⟩
      show WAt k (bs ++ (vheadB v ++ vpartB m v v.parts.length)) _
      rw [np1]
      simpa [vheadB, vpartB, k1, List.append_assoc] using hW1
    by_cases k2 : v.kind = 2
    · have np1 := hempty (by omega) (by omega)
      have np0 : decide ((0 : Int) < (v.parts.length : Int)) = false := by rw [np1]; decide
      have b1 := kne 1 k1
      have b2 := keq 2 k2
      (simp (disch := first | decide | omega | (simp only [nx]; first | done | omega)) only [go_sem, hx0, b1, b2]; (repeat with_reducible refine aI ?_))
      refine (int_w v.n (isI64 hp.2.1) (k := k) (by omega) hW0 (by simp; omega)).wf.mono ?_
      rintro _ T1 ⟨⟨rfl, hW1, hF1⟩, hT1⟩
      have hx1 := hF1.box S.next _ _ (by omega) hx0
      (simp (disch := first | decide | omega | (simp only [nx]; first | done | omega)) only [go_sem, hx1]; (repeat with_reducible refine aI ?_))
      refine dloop_fuel 1 hT1 (by kernel_rfl) ?_
      rw [loopN_eq]
      (simp (disch := first | decide | omega | (simp only [nx]; first | done | omega)) only [go_sem, hx1, np0]; (repeat with_reducible refine aI ?_))
      refine ⟨?_, hFS.trans hF1⟩
      show WAt k (bs ++ (vheadB v ++ vpartB m v v.parts.length)) _
      rw [np1]
      simpa [vheadB, vpartB, k2, List.append_assoc] using hW1
    by_cases k3 : v.kind = 3
    · have np1 := hempty (by omega) (by omega)
      have np0 : decide ((0 : Int) < (v.parts.length : Int)) = false := by rw [np1]; decide
      have b1 := kne 1 k1
      have b2 := kne 2 k2
      have b3 := keq 3 k3
      have hsl := hf.s
      (simp (disch := first | decide | omega | (simp only [nx]; first | done | omega)) only [go_sem, hx0, b1, b2, b3]; (repeat with_reducible refine aI ?_))
      refine (text_w ⟨v.s.toArray⟩ (k := k) (by omega) hW0 (by simp; omega)).wf.mono ?_
      rintro _ T1 ⟨⟨rfl, hW1, hF1⟩, hT1⟩
      have hx1 := hF1.box S.next _ _ (by omega) hx0
      (simp (disch := first | decide | omega | (simp only [nx]; first | done | omega)) only [go_sem, hx1]; (repeat with_reducible refine aI ?_))
      refine dloop_fuel 1 hT1 (by kernel_rfl) ?_
      rw [loopN_eq]
      (simp (disch := first | decide | omega | (simp only [nx]; first | done | omega)) only [go_sem, hx1, np0]; (repeat with_reducible refine aI ?_))
      refine ⟨?_, hFS.trans hF1⟩
      show WAt k (bs ++ (vheadB v ++ vpartB m v v.parts.length)) _
      rw [np1]
      simpa [vheadB, vpartB, k3, List.append_assoc] using hW1
    by_cases k4 : v.kind = 4
    · have np1 := hempty (by omega) (by omega)
      have np0 : decide ((0 : Int) < (v.parts.length : Int)) = false := by rw [np1]; decide
      have b1 := kne 1 k1
      have b2 := kne 2 k2
      have b3 := kne 3 k3
      have b4 := keq 4 k4
      have hsl := hf.s
      (simp (disch := first | decide | omega | (simp only [nx]; first | done | omega)) only [go_sem, hx0, b1, b2, b3, b4]; (repeat with_reducible refine aI ?_))
      refine (text_w ⟨v.s.toArray⟩ (k := k) (by omega) hW0 (by simp; omega)).wf.mono ?_
      rintro _ T1 ⟨⟨rfl, hW1, hF1⟩, hT1⟩
      have hx1 := hF1.box S.next _ _ (by omega) hx0
      (simp (disch := first | decide | omega | (simp only [nx]; first | done | omega)) only [go_sem, hx1]; (repeat with_reducible refine aI ?_))
      refine dloop_fuel 1 hT1 (by kernel_rfl) ?_
      rw [loopN_eq]
      (simp (disch := first | decide | omega | (simp only [nx]; first | done | omega)) only [go_sem, hx1, np0]; (repeat with_reducible refine aI ?_))
      refine ⟨?_, hFS.trans hF1⟩
      show WAt k (bs ++ (vheadB v ++ vpartB m v v.parts.length)) _
      rw [np1]
      simpa [vheadB, vpartB, k4, List.append_assoc] using hW1
    have b1 := kne 1 k1
    have b2 := kne 2 k2
    have b3 := kne 3 k3
    have b4 := kne 4 k4
    have hnu : IsU64 v.parts.length := by unfold IsU64; omega
    (simp (disch := first | decide | omega | (simp only [nx]; first | done | omega)) only [go_sem, hx0, b1, b2, b3, b4, wrap_u64 v.parts.length hnu]; (repeat with_reducible refine aI ?_))
    refine (number_w v.parts.length hnu (k := k) (by omega) hW0 (by simp; omega)).wf.mono ?_
    rintro _ T1 ⟨⟨rfl, hW1, hF1⟩, hT1⟩
    have hx1 := hF1.box S.next _ _ (by omega) hx0
    have hn1 : T0.next ≤ T1.next := hF1.next
    have hFS1 := hFS.trans hF1
    have ehead : bs ++ [vkindB v] ++ numB v.parts.length = bs ++ vheadB v := by
      rw [vheadB, if_neg k1, if_neg k2, if_neg (by omega), List.append_assoc]; rfl
    rw [ehead] at hW1
    (simp (disch := first | decide | omega | (simp only [nx]; first | done | omega)) only [go_sem, hx1]; (repeat with_reducible refine aI ?_))
    refine dloop_up (fun t => List.contains [4, 5, 42, 43, 44, 45, 46, 47, 48, 49, 50, 51, 52, 53, 54, 55, 56, 57, 58, 59, 60, 61, 62, 63, 64, 65, 66, 67] t) (by kernel_rfl) hT1 v.parts.length (fun i g T => i ≤ v.parts.length ∧ g 42 = .v (.int .i64 ((i : Nat) : Int)) ∧ WAt k ((bs ++ vheadB v) ++ vpartB m v i) T ∧ WFr k S T ∧ T.ob S.next = some (.box 26 [.v (.int .i64 v.kind), .v (.int .i64 v.n), .v (sv v.s), .sl .no (v.names.map strD), .sl .no (v.ids.map u64D), .sl .no (v.parts.map encV)]) ∧ S.next < T.next) ⟨by omega, by (first | (simp (disch := first | decide | omega | (simp only [nx]; first | done | omega)) only [go_sem]; first | done | rfl) | rfl), by simpa [vpartB] using hW1, hFS1, hx1, by omega⟩ ?_
    rintro i g T hT hg ⟨le, q42, hW, hF, hx, hsn⟩
    have q0 := hg 0 rfl
    have q3 := hg 3 rfl
    have q40 := hg 40 rfl
    have q41 := hg 41 rfl
    simp (disch := first | decide | omega | (simp only [nx]; first | done | omega)) only [go_sem] at q0 q3 q40 q41
    clear hg
    by_cases hlt : i < v.parts.length
    · have b5 : decide ((i : Int) < (v.parts.length : Int)) = true := by simp; omega
      have w1 : IntKind.i64.wrap ((i : Int) + 1) = ((i + 1 : Nat) : Int) := IntWalk.i64_in _ ⟨by omega, by omega⟩
      have hmem := List.getElem_mem hlt
      have hpe : v.parts.getD i default = v.parts[i] := getD_at hlt
      have hkT : k < T.next := Nat.lt_of_lt_of_le hk hF.next
      have hWa : WAt k ((bs ++ vheadB v) ++ vpartB m v i) (T.add (.box 26 (encV v.parts[i]).cells)) := hW.box (by show T.next ≤ T.next + 1; omega) hT (add_keep hT _)
      have hFa : WFr k S (T.add (.box 26 (encV v.parts[i]).cells)) := hF.trans (WFr.of_keep (by show T.next ≤ T.next + 1; omega) (add_keep hT _))
      have hxa : (T.add (.box 26 (encV v.parts[i]).cells)).ob S.next = some (.box 26 [.v (.int .i64 v.kind), .v (.int .i64 v.n), .v (sv v.s), .sl .no (v.names.map strD), .sl .no (v.ids.map u64D), .sl .no (v.parts.map encV)]) := by (first | (simp (disch := first | decide | omega | (simp only [nx]; first | done | omega)) only [go_sem, hx]; first | done | rfl) | rfl)
      have hpa : (T.add (.box 26 (encV v.parts[i]).cells)).ob T.next = some (.box 26 (encV v.parts[i]).cells) := by (first | (simp (disch := first | decide | omega | (simp only [nx]; first | done | omega)) only [go_sem]; first | done | rfl) | rfl)
      have hkl := vkey_len hf ho i
      have hlen : ((bs ++ vheadB v) ++ vpartB m v i).length + 30 + 200 * v.parts[i].weight ≤ 1000000000 := by
        have h1 := vhead_len hf ho
        have h3 := vpart_len m v i le (by omega) hr ho
        have h4 : DVal.weights (v.parts.take i) + v.parts[i].weight ≤ DVal.weights v.parts := by
          have := weights_take_le v.parts (i + 1)
          rwa [List.take_succ_eq_append_getElem hlt, weights_snoc] at this
        have h5 := hh.2.2
        simp only [List.length_append]
        omega
      by_cases k5 : v.kind = 5
      · have b6 := keq 5 k5
        have hin : i < v.names.length := by have := hh.2.2; have := hh.2.1 (by omega); omega
        have hke : vkeyB v i = numB v.names[i].length ++ v.names[i] := by rw [vkeyB, if_pos k5, getD_at hin]
        have hnl := hf.names _ (List.getElem_mem hin)
        (simp (disch := first | decide | omega | (simp only [nx]; first | done | omega)) only [go_sem, q0, q3, q40, q41, q42, b5, hx, St.add_set, hxa, b6]; (repeat with_reducible refine aI ?_))
        refine (text_w ⟨v.names[i].toArray⟩ (k := k) (by show k < T.next + 1; omega) hWa (by simp only [List.toList_toArray]; omega)).mono ?_
        rintro _ T2 ⟨rfl, hW2, hF2⟩
        rw [show numB (ByteArray.mk v.names[i].toArray).data.toList.length ++ (ByteArray.mk v.names[i].toArray).data.toList = vkeyB v i by rw [hke]] at hW2
        have hx2 := hF2.box S.next _ _ (by omega) hxa
        have hxp := hF2.box T.next 26 (encV v.parts[i]).cells (by omega) hpa
        have hn2 : T.next + 1 ≤ T2.next := hF2.next
        (simp (disch := first | decide | omega | (simp only [nx]; first | done | omega)) only [go_sem, hxp, q0]; (repeat with_reducible refine aI ?_))
        refine (ih v.parts[i] (by have := DVal.depth_part hmem; omega) (hr.part hmem) (hp.2.2.2.2.2.2.2.2 _ hmem) (by have := DVal.weight_part hmem; omega) (k := k) (by omega) hW2 (by simp only [List.length_append] at hkl hlen ⊢; omega)).wf.mono ?_
        rintro _ T3 ⟨⟨rfl, hW3, hF3⟩, hT3⟩
        have hx3 := hF3.box S.next _ _ (by omega) hx2
        have hn3 : T2.next ≤ T3.next := hF3.next
        (simp (disch := first | decide | omega | (simp only [nx]; first | done | omega)) only [go_sem, q42, w1]; (repeat with_reducible refine aI ?_))
        refine ⟨hlt, T3.ob, fun _ _ h => h, by omega, by (first | (simp (disch := first | decide | omega | (simp only [nx]; first | done | omega)) only [go_sem]; first | done | rfl) | rfl), ?_, (hFa.trans hF2).trans hF3, hx3, by show S.next < T3.next; omega⟩
        show WAt k _ T3
        rw [vpartB_succ, hpe]
        simpa [List.append_assoc] using hW3
      · have b6 := kne 5 k5
        have hin : i < v.ids.length := by have := hh.2.2; have := hh.1 k5; omega
        have hke : vkeyB v i = numB v.ids[i] := by rw [vkeyB, if_neg k5, getD_at hin]
        (simp (disch := first | decide | omega | (simp only [nx]; first | done | omega)) only [go_sem, q0, q3, q40, q41, q42, b5, hx, St.add_set, hxa, b6]; (repeat with_reducible refine aI ?_))
        refine (number_w v.ids[i] (isU64 (hp.2.2.2.2.2.1 _ (List.getElem_mem hin))) (k := k) (by show k < T.next + 1; omega) hWa (by omega)).mono ?_
        rintro _ T2 ⟨rfl, hW2, hF2⟩
        rw [show numB v.ids[i] = vkeyB v i from hke.symm] at hW2
        have hx2 := hF2.box S.next _ _ (by omega) hxa
        have hxp := hF2.box T.next 26 (encV v.parts[i]).cells (by omega) hpa
        have hn2 : T.next + 1 ≤ T2.next := hF2.next
        (simp (disch := first | decide | omega | (simp only [nx]; first | done | omega)) only [go_sem, hxp, q0]; (repeat with_reducible refine aI ?_))
        refine (ih v.parts[i] (by have := DVal.depth_part hmem; omega) (hr.part hmem) (hp.2.2.2.2.2.2.2.2 _ hmem) (by have := DVal.weight_part hmem; omega) (k := k) (by omega) hW2 (by simp only [List.length_append] at hkl hlen ⊢; omega)).wf.mono ?_
        rintro _ T3 ⟨⟨rfl, hW3, hF3⟩, hT3⟩
        have hx3 := hF3.box S.next _ _ (by omega) hx2
        have hn3 : T2.next ≤ T3.next := hF3.next
        (simp (disch := first | decide | omega | (simp only [nx]; first | done | omega)) only [go_sem, q42, w1]; (repeat with_reducible refine aI ?_))
        refine ⟨hlt, T3.ob, fun _ _ h => h, by omega, by (first | (simp (disch := first | decide | omega | (simp only [nx]; first | done | omega)) only [go_sem]; first | done | rfl) | rfl), ?_, (hFa.trans hF2).trans hF3, hx3, by show S.next < T3.next; omega⟩
        show WAt k _ T3
        rw [vpartB_succ, hpe]
        simpa [List.append_assoc] using hW3
    · have b5 : decide ((i : Int) < (v.parts.length : Int)) = false := by simp; omega
      (simp (disch := first | decide | omega | (simp only [nx]; first | done | omega)) only [go_sem, q0, q3, q40, q41, q42, b5]; (repeat with_reducible refine aI ?_))
      have e : i = v.parts.length := by omega
      rw [e, List.append_assoc] at hW
      exact ⟨hW, hF⟩
end Go.Proofs.YtbcabejdchkpmaaGreatDoor

namespace Go.Proofs.YtbcabejdchkpmaaGreatDoor
open Go.RowKit
theorem RAt.obk {k : Nat} {l : List UInt8} {i j : Nat} {S T : St} (h : T.ob k = S.ob k) (hr : RAt k l i S) (hij : i = j := by omega) : RAt k l j T := by
  subst hij
  obtain ⟨own, hr⟩ := hr
  exact ⟨own, h.trans hr⟩
end Go.Proofs.YtbcabejdchkpmaaGreatDoor
