/- Texts of a proof, part 9. Conditions: none. -/
import Derived.Test.YtjjhjhjphhpeiaaGreatDoorD8
set_option linter.unusedVariables false
set_option linter.unusedSimpArgs false
namespace Go.Proofs.YtjjhjhjphhpeiaaGreatDoor
open Go.RowKit
set_option linter.unusedSimpArgs false
set_option linter.unusedVariables false
/-- What Between answers: which error, and which operations. -/
noncomputable def betC (s : DSch) (a b : DVal) : Nat := if rightS 5 s = true then (if fitsTop a s = true ∧ fitsTop b s = true then 0 else 6) else 1
noncomputable def betO (s : DSch) (a b : DVal) : List DOp := if betC s a b = 0 then dOps 5 [] a b else []
theorem betC_zero {s : DSch} {a b : DVal} (h : betC s a b = 0) : rightS 5 s = true ∧ GV a s ∧ GV b s := by
  unfold betC at h
  split at h
  · split at h
    · rename_i h1 h2
      exact ⟨h1, (fitsTop_iff.1 h2.1).2, (fitsTop_iff.1 h2.2).2⟩
    · cases h
  · cases h
theorem closed_bet (l : List DOp) (c : Nat) : (D.tup [.sl .no (l.map encO), errO c]).closed := by
  have h := errO_closed c
  simp only [D.closed, D.all, allL, Own.all, true_and, and_true] at h ⊢
  refine ⟨allL_iff.2 fun d hd => ?_, h⟩
  obtain ⟨o, _, rfl⟩ := List.mem_map.1 hd
  exact closed_encO o
theorem vArg_top {s : DSch} {a b : DVal} (hs : rightS 5 s = true) (ha : GV a s) (hb : GV b s) (hoa : okV a) (hob : okV b) : VArg 5 [] a b s := by
  have h := RS.of_top hs
  have := GV.depth s.depth (Nat.le_refl _) ha
  exact ⟨ha, hb, h.1, hoa, hob, ha.wt hs, hb.wt hs, by omega, by simp⟩
set_option maxRecDepth 200000 in
set_option maxHeartbeats 8000000 in
theorem bet_d (s : DSch) (a b : DVal) (hos : okS s) (hoa : okV a) (hob : okV b) : DPure Tryz.prog 9 [encS s, encV a, encV b] (.tup [.sl .no ((betO s a b).map encO), errO (betC s a b)]) := by
  by_cases hr : rightS 5 s = true
  · by_cases hfa : fitsTop a s = true
    · by_cases hfb : fitsTop b s = true
      · have hc : betC s a b = 0 := by rw [betC, if_pos hr, if_pos ⟨hfa, hfb⟩]
        have hA := vArg_top hr (fitsTop_iff.1 hfa).2 (fitsTop_iff.1 hfb).2 hoa hob
        rw [betO, if_pos hc, hc]
        exact between_of s a b (dOps 5 [] a b) hos hoa hob hr hfa hfb fun S k hk hm => valOk 5 S k .full [] [] a b s hk hm (by simp [dMax]) hA
      · have hc : betC s a b = 6 := by rw [betC, if_pos hr, if_neg (fun h => hfb h.2)]
        rw [betO, if_neg (by omega), hc]
        refine dpure_of_dwp mixed Tryz.func9 rfl (fun _ _ => by kernel_rfl) (rs := [.tmp 6, .tmp 7]) rfl (by kernel_rfl) (closed_bet [] 6) (fun S hS => ?_)
        (simp (disch := first | decide | omega | (simp only [nx]; first | done | omega)) only [go_sem, Nat.reduceMul]; (repeat (with_reducible refine And.intro (by first | omega | assumption | rfl) ?_)))
        refine DCalls.of_pure (schRight_d s hos) ?_
        rw [hr]
        (simp (disch := first | decide | omega | (simp only [nx]; first | done | omega)) only [go_sem, Nat.reduceMul]; (repeat (with_reducible refine And.intro (by first | omega | assumption | rfl) ?_)))
        refine DCalls.of_pure (fitsTop_d a s hoa hos) ?_
        rw [hfa]
        (simp (disch := first | decide | omega | (simp only [nx]; first | done | omega)) only [go_sem, Nat.reduceMul]; (repeat (with_reducible refine And.intro (by first | omega | assumption | rfl) ?_)))
        refine DCalls.of_pure (fitsTop_d b s hob hos) ?_
        rw [Bool.eq_false_iff.2 hfb]
        (simp (disch := first | decide | omega | (simp only [nx]; first | done | omega)) only [go_sem, Nat.reduceMul]; (repeat (with_reducible refine And.intro (by first | omega | assumption | rfl) ?_)))
        refine ⟨?_, (by (repeat' first | assumption | exact St.Sub.refl _ | exact RowOk.sub (by assumption) (by assumption) | refine St.Sub.trans ?_ (RowOk.sub (by assumption) (by assumption)) | refine St.Sub.add ?_ ?_ _ | refine St.Sub.set ?_ ?_ ?_ _ | refine St.Sub.keep ?_ ?_ | refine St.WF.leave ?_ _ | refine St.WF.add ?_ _ | refine St.WF.set ?_ ?_ _ | refine St.WF.grow ?_ _ _ _ | refine St.WF.keep ?_ ?_ | (first | omega | (simp only [RowOk.lo, nx]; first | done | omega))))⟩
        rfl
    · have hc : betC s a b = 6 := by rw [betC, if_pos hr, if_neg (fun h => hfa h.1)]
      rw [betO, if_neg (by omega), hc]
      refine dpure_of_dwp mixed Tryz.func9 rfl (fun _ _ => by kernel_rfl) (rs := [.tmp 6, .tmp 7]) rfl (by kernel_rfl) (closed_bet [] 6) (fun S hS => ?_)
      (simp (disch := first | decide | omega | (simp only [nx]; first | done | omega)) only [go_sem, Nat.reduceMul]; (repeat (with_reducible refine And.intro (by first | omega | assumption | rfl) ?_)))
      refine DCalls.of_pure (schRight_d s hos) ?_
      rw [hr]
      (simp (disch := first | decide | omega | (simp only [nx]; first | done | omega)) only [go_sem, Nat.reduceMul]; (repeat (with_reducible refine And.intro (by first | omega | assumption | rfl) ?_)))
      refine DCalls.of_pure (fitsTop_d a s hoa hos) ?_
      rw [Bool.eq_false_iff.2 hfa]
      (simp (disch := first | decide | omega | (simp only [nx]; first | done | omega)) only [go_sem, Nat.reduceMul]; (repeat (with_reducible refine And.intro (by first | omega | assumption | rfl) ?_)))
      refine ⟨?_, (by (repeat' first | assumption | exact St.Sub.refl _ | exact RowOk.sub (by assumption) (by assumption) | refine St.Sub.trans ?_ (RowOk.sub (by assumption) (by assumption)) | refine St.Sub.add ?_ ?_ _ | refine St.Sub.set ?_ ?_ ?_ _ | refine St.Sub.keep ?_ ?_ | refine St.WF.leave ?_ _ | refine St.WF.add ?_ _ | refine St.WF.set ?_ ?_ _ | refine St.WF.grow ?_ _ _ _ | refine St.WF.keep ?_ ?_ | (first | omega | (simp only [RowOk.lo, nx]; first | done | omega))))⟩
      rfl
  · have hc : betC s a b = 1 := by rw [betC, if_neg hr]
    rw [betO, if_neg (by omega), hc]
    refine dpure_of_dwp mixed Tryz.func9 rfl (fun _ _ => by kernel_rfl) (rs := [.tmp 6, .tmp 7]) rfl (by kernel_rfl) (closed_bet [] 1) (fun S hS => ?_)
    (simp (disch := first | decide | omega | (simp only [nx]; first | done | omega)) only [go_sem, Nat.reduceMul]; (repeat (with_reducible refine And.intro (by first | omega | assumption | rfl) ?_)))
    refine DCalls.of_pure (schRight_d s hos) ?_
    rw [Bool.eq_false_iff.2 hr]
    (simp (disch := first | decide | omega | (simp only [nx]; first | done | omega)) only [go_sem, Nat.reduceMul]; (repeat (with_reducible refine And.intro (by first | omega | assumption | rfl) ?_)))
    refine ⟨?_, (by (repeat' first | assumption | exact St.Sub.refl _ | exact RowOk.sub (by assumption) (by assumption) | refine St.Sub.trans ?_ (RowOk.sub (by assumption) (by assumption)) | refine St.Sub.add ?_ ?_ _ | refine St.Sub.set ?_ ?_ ?_ _ | refine St.Sub.keep ?_ ?_ | refine St.WF.leave ?_ _ | refine St.WF.add ?_ _ | refine St.WF.set ?_ ?_ _ | refine St.WF.grow ?_ _ _ _ | refine St.WF.keep ?_ ?_ | (first | omega | (simp only [RowOk.lo, nx]; first | done | omega))))⟩
    rfl
/-- There, and back. -/
theorem bet_leads {s : DSch} {a b : DVal} (h : betC s a b = 0) : Leads s a (betO s a b) b := by
  obtain ⟨h1, h2, h3⟩ := betC_zero h
  rw [betO, if_pos h]
  have := GV.depth s.depth (Nat.le_refl _) h2
  have := RS.of_top h1
  exact leads_top h1 h2 h3 (by omega)
theorem bet_ok {s : DSch} {a b : DVal} (h : betC s a b = 0) (hoa : okV a) (hob : okV b) (hw : b.weight ≤ 1000) : ∀ o ∈ betO s a b, OkO o := by
  obtain ⟨h1, h2, h3⟩ := betC_zero h
  rw [betO, if_pos h]
  exact okAt 5 s [] a b h2 h3 (RS.of_top h1).1 hoa hob hw (by simp) (fun q hq => by cases hq)
theorem bet_len (s : DSch) (a b : DVal) : (betO s a b).length ≤ 1000000 := by
  unfold betO
  split
  · rename_i h
    obtain ⟨h1, h2, h3⟩ := betC_zero h
    exact Nat.le_trans (lenAt 5 s [] a b h2 h3 (RS.of_top h1).1) (by simp [dMax])
  · simp
theorem bet_apply {s : DSch} {a b : DVal} (h : betC s a b = 0) : applyV s a (betO s a b) = b := by
  obtain ⟨h1, h2, h3⟩ := betC_zero h
  rw [applyV, if_pos (fitsTop_iff.2 ⟨h1, h2⟩)]
  exact (bet_leads h).ends
end Go.Proofs.YtjjhjhjphhpeiaaGreatDoor

namespace Go.Proofs.YtjjhjhjphhpeiaaGreatDoor
open Go.RowKit
set_option linter.unusedSimpArgs false
set_option linter.unusedVariables false
/-- No two of these set one place. -/
def Apart (l : List DOp) : Prop := l.Pairwise fun x y => ¬ (x.kind = 1 ∧ y.kind = 1 ∧ x.path = y.path)
/-- What is set lies under one of these places. -/
def Under (P : List DStp → Prop) (l : List DOp) : Prop := ∀ o ∈ l, o.kind = 1 → ∃ q, P q ∧ q <+: o.path
theorem Apart.app {l m : List DOp} {P Q : List DStp → Prop} (hl : Apart l) (hm : Apart m) (ul : Under P l) (um : Under Q m) (h : ∀ p q, P p → Q q → p.length = q.length ∧ p ≠ q) : Apart (l ++ m) := by
  refine List.pairwise_append.2 ⟨hl, hm, fun x hx y hy hc => ?_⟩
  obtain ⟨p, hp, p1⟩ := ul x hx hc.1
  obtain ⟨q, hq, q1⟩ := um y hy hc.2.1
  rw [hc.2.2] at p1
  obtain ⟨e1, e2⟩ := h p q hp hq
  exact e2 ((List.prefix_of_prefix_length_le p1 q1 (by omega)).eq_of_length e1)
theorem Under.nil (P : List DStp → Prop) : Under P [] := fun o h => by cases h
theorem Under.quiet {P : List DStp → Prop} {l : List DOp} (h : ∀ o ∈ l, o.kind ≠ 1) : Under P l := fun o ho hk => absurd hk (h o ho)
theorem Apart.quiet {l : List DOp} (h : ∀ o ∈ l, o.kind ≠ 1) : Apart l := List.Pairwise.imp_of_mem (R := fun _ _ => True) (fun hx _ _ hc => h _ hx hc.1) (List.pairwise_iff_forall_sublist.2 fun _ => trivial)
theorem Under.app {P : List DStp → Prop} {l m : List DOp} (h : Under P l) (g : Under P m) : Under P (l ++ m) := fun o ho => (List.mem_append.1 ho).elim (h o) (g o)
theorem Under.mono {P Q : List DStp → Prop} {l : List DOp} (h : Under P l) (hi : ∀ q, P q → Q q) : Under Q l := fun o ho hk => by obtain ⟨q, h1, h2⟩ := h o ho hk; exact ⟨q, hi q h1, h2⟩
/-- What is shown of all values of a depth. -/
def ApartAt (k : Nat) : Prop := ∀ (t : DSch) (p : List DStp) (a b : DVal), GV a t → GV b t → RS t → Apart (dOps k p a b) ∧ Under (fun q => q = p) (dOps k p a b)
theorem snoc_ne {p : List DStp} {x y : DStp} (h : x ≠ y) : (p ++ [x]).length = (p ++ [y]).length ∧ p ++ [x] ≠ p ++ [y] := ⟨by simp, fun e => h (by simpa using e)⟩
theorem apart_rec {k : Nat} (ih : ApartAt k) {t : DSch} {p : List DStp} {a b : DVal} (h5 : t.kind = 5) (ha : GV a t) (hb : GV b t) (ht : RS t) : ∀ i, i ≤ a.names.length →
    Apart ((List.range i).flatMap fun i => dOps k (p ++ [(a.names.getD i [], 0)]) (a.parts.getD i default) (b.parts.getD i default)) ∧
    Under (fun q => ∃ j, j < i ∧ q = p ++ [(a.names.getD j [], 0)]) ((List.range i).flatMap fun i => dOps k (p ++ [(a.names.getD i [], 0)]) (a.parts.getD i default) (b.parts.getD i default))
  | 0, _ => ⟨List.Pairwise.nil, Under.nil _⟩
  | i + 1, hi => by
    obtain ⟨h1, h2⟩ := apart_rec ih h5 ha hb ht i (by omega)
    have r1 := ha.recd h5
    have r2 := hb.recd h5
    have hai : i < a.parts.length := by have := r1.len; omega
    have hbi : i < b.parts.length := by have h1 := r2.len; have h2 := r1.len; have h3 := r1.names; have h4 := r2.names; rw [h4, ← h3] at h1; omega
    obtain ⟨g1, g2⟩ := ih (t.parts.getD (atF t i) default) (p ++ [(a.names.getD i [], 0)]) (a.parts.getD i default) (b.parts.getD i default) (by rw [getD_at hai]; exact ha.part hai) (by rw [getD_at hbi]; exact hb.part hbi) (by rw [getD_at (ha.at_ hai)]; exact ht.part (List.getElem_mem _))
    rw [List.range_succ, List.flatMap_append, List.flatMap_cons, List.flatMap_nil, List.append_nil]
    refine ⟨h1.app g1 h2 g2 ?_, (h2.mono fun q ⟨j, hj, e⟩ => ⟨j, by omega, e⟩).app (g2.mono fun q e => ⟨i, by omega, e⟩)⟩
    rintro x y ⟨j, hj, rfl⟩ rfl
    refine snoc_ne fun e => ?_
    have e1 := congrArg Prod.fst e
    simp only at e1
    obtain ⟨u, s1, s2, s3, s4⟩ := field_step ha ht h5 (i := i) hai
    obtain ⟨u', s1', s2', s3', s4'⟩ := field_step ha ht h5 (i := j) (by omega)
    rw [e1] at s3'
    omega
theorem apart_list {k : Nat} (ih : ApartAt k) {t : DSch} {p : List DStp} {a b : DVal} (h6 : t.kind = 6) (ha : GV a t) (hb : GV b t) (ht : RS t) : ∀ i, i ≤ b.ids.length →
    Apart (lsOps (dOps k) p a b i).1 ∧ Under (fun q => ∃ j, j < i ∧ q = p ++ [([], b.ids.getD j 0)]) (lsOps (dOps k) p a b i).1
  | 0, _ => by
    have hq : ∀ o ∈ lsDel p a b, o.kind ≠ 1 := fun o ho => by
      obtain ⟨x, _, rfl⟩ := List.mem_map.1 ho
      simp
    exact ⟨Apart.quiet hq, Under.quiet hq⟩
  | i + 1, hi => by
    obtain ⟨h1, h2⟩ := apart_list ih h6 ha hb ht i (by omega)
    have hbl := hb.list h6
    have hbi : i < b.parts.length := by have := hbl.len; omega
    have hpt : 0 < t.parts.length := by have := ht.here.2 h6; omega
    have hr : Apart (lsRound (dOps k) p a b i (lsOps (dOps k) p a b i).2).1 ∧ Under (fun q => q = p ++ [([], b.ids.getD i 0)]) (lsRound (dOps k) p a b i (lsOps (dOps k) p a b i).2).1 := by
      unfold lsRound
      by_cases hx : b.ids.getD i 0 ∈ a.ids
      · have hg := ih (t.parts.getD 0 default) (p ++ [([], b.ids.getD i 0)]) (a.parts.getD (ixN a.ids (b.ids.getD i 0)) default) (b.parts.getD i default) (ha.pOf h6 hx) (by rw [getD_at hbi]; exact hbl.parts _ (List.getElem_mem hbi)) (by rw [getD_at hpt]; exact ht.part (List.getElem_mem hpt))
        rw [if_neg (by simpa using hx)]
        split
        · refine ⟨List.pairwise_cons.2 ⟨fun y hy hc => ?_, hg.1⟩, fun o ho hk => ?_⟩
          · exact absurd (show (4 : Int) = 1 from hc.1) (by decide)
          · rcases List.mem_cons.1 ho with e | e
            · subst e; exact absurd (show (4 : Int) = 1 from hk) (by decide)
            · exact hg.2 o e hk
        · exact hg
      · rw [if_pos hx]
        have hq : ∀ o ∈ [(⟨2, p, b.ids.getD i 0, if i = 0 then 0 else b.ids.getD (i - 1) 0, b.parts.getD i default⟩ : DOp)], o.kind ≠ 1 := fun o ho => by
          rw [List.mem_singleton] at ho
          subst ho
          simp
        exact ⟨Apart.quiet hq, Under.quiet hq⟩
    refine ⟨h1.app hr.1 h2 hr.2 ?_, (h2.mono fun q ⟨j, hj, e⟩ => ⟨j, by omega, e⟩).app (hr.2.mono fun q e => ⟨i, by omega, e⟩)⟩
    rintro x y ⟨j, hj, rfl⟩ rfl
    refine snoc_ne fun e => ?_
    have e1 := congrArg Prod.snd e
    simp only at e1
    rw [getD_at (show j < b.ids.length by omega), getD_at (show i < b.ids.length by omega)] at e1
    have := nd_inj hbl.nodup (by omega) (by omega) e1
    omega
theorem apartAt : ∀ k, ApartAt k
  | 0 => fun t p a b ha hb ht => ⟨List.Pairwise.nil, Under.nil _⟩
  | k + 1 => fun t p a b ha hb ht => by
    rw [dOps]
    have hk := ha.kind
    split
    · exact ⟨List.Pairwise.nil, Under.nil _⟩
    · split
      · rename_i h5
        obtain ⟨h1, h2⟩ := apart_rec (apartAt k) (p := p) (by omega) ha hb ht a.names.length (Nat.le_refl _)
        exact ⟨h1, fun o ho hk => by obtain ⟨q, ⟨j, hj, rfl⟩, h3⟩ := h2 o ho hk; exact ⟨p, rfl, (List.prefix_append _ _).trans h3⟩⟩
      · split
        · rename_i h6
          obtain ⟨h1, h2⟩ := apart_list (apartAt k) (p := p) (by omega) ha hb ht b.ids.length (Nat.le_refl _)
          exact ⟨h1, fun o ho hk => by obtain ⟨q, ⟨j, hj, rfl⟩, h3⟩ := h2 o ho hk; exact ⟨p, rfl, (List.prefix_append _ _).trans h3⟩⟩
        · exact ⟨List.pairwise_singleton _ _, fun o ho hk => ⟨p, rfl, by rw [List.mem_singleton] at ho; subst ho; exact List.prefix_rfl⟩⟩
end Go.Proofs.YtjjhjhjphhpeiaaGreatDoor

namespace Go.Proofs.YtjjhjhjphhpeiaaGreatDoor
open Go.RowKit
set_option linter.unusedSimpArgs false
set_option linter.unusedVariables false
/-- A list, by itself. -/
def listV (is : List Nat) (ps : List DVal) : DVal := .mk 6 0 [] [] is ps
def outL (d1 d2 : D) : List D := [.v (.int .i64 6), .v (.int .i64 0), .v (.string ⟨#[]⟩), .sl .full [], d1, d2]
/-- Where the last element with a number stands, behind it; or the end. -/
def lastP (l : List Nat) (x : Nat) : Nat → Nat
  | 0 => l.length
  | i + 1 => if l.getD i 0 = x ∧ i < l.length then i + 1 else lastP l x i
theorem lastP_mem {l : List Nat} (hn : l.Nodup) {x : Nat} (hm : x ∈ l) : ∀ i, ixN l x < i → i ≤ l.length → lastP l x i = ixN l x + 1
  | 0, h, _ => by omega
  | i + 1, h, hi => by
    have hlt : i < l.length := by omega
    have hk := ix_lt hm
    have hix : l[ixN l x] = x := List.getElem_idxOf (x := x) (xs := l) hk
    unfold lastP
    rw [getD_at hlt]
    by_cases e : l[i] = x
    · rw [if_pos ⟨e, hlt⟩]
      have : i = ixN l x := by
        by_cases hh : i = ixN l x
        · exact hh
        · rcases Nat.lt_or_gt_of_ne hh with h1 | h1
          · omega
          · exact absurd (hix.trans e.symm) (List.pairwise_iff_getElem.1 hn _ _ hk hlt h1)
      omega
    · rw [if_neg (fun h => e h.1)]
      refine lastP_mem hn hm i ?_ (by omega)
      rcases Nat.lt_or_ge (ixN l x) i with h1 | h1
      · exact h1
      · have h2 : ixN l x = i := by omega
        have h3 : l[i] = x := by
          have h4 := hix
          simp only [h2] at h4
          exact h4
        exact absurd h3 e
theorem lastP_no {l : List Nat} {x : Nat} (hm : x ∉ l) : ∀ i, i ≤ l.length → lastP l x i = l.length
  | 0, _ => rfl
  | i + 1, hi => by
    have hlt : i < l.length := by omega
    unfold lastP
    rw [getD_at hlt, if_neg (show ¬ (l[i] = x ∧ i < l.length) from fun h => hm (h.1 ▸ List.getElem_mem hlt))]
    exact lastP_no hm i (by omega)
set_option maxRecDepth 200000 in
set_option maxHeartbeats 8000000 in
theorem refIn_d (v x : DVal) (id after : Nat) (hl : v.parts.length = v.ids.length) (hn : v.ids.length ≤ 1000) (hd : v.ids.Nodup) :
    DPure Tryz.prog 41 [encV v, .v (uv id), .v (uv after), encV x] (encV (listV (v.ids.take (plK v after) ++ [id] ++ v.ids.drop (plK v after)) (v.parts.take (plK v after) ++ [x] ++ v.parts.drop (plK v after)))) := by
  refine dpure_of_dwp mixed Tryz.func41 rfl (fun _ _ => by kernel_rfl) (rs := [.cell 8 29]) rfl (by kernel_rfl) (closed_encV _) (fun S hS => ?_)
  (simp (disch := first | decide | omega | (simp only [nx]; first | done | omega)) only [go_sem, Nat.reduceMul, uv]; (repeat (with_reducible refine And.intro (by first | omega | assumption | rfl) ?_)))
  (refine dloop_st (fun t => List.contains [10, 11, 17, 18, 19, 20, 21, 22, 23, 24, 25, 26, 27, 28, 29, 30, 31, 32] t) (by kernel_rfl) ?_ (v.ids.length) (fun i f => i ≤ v.ids.length ∧ f 11 = .v (.int .i64 (i : Nat)) ∧ f 10 = .v (.int .i64 ((lastP v.ids after i : Nat) : Int))) ?_ ?_; (exact (by (repeat' first | assumption | refine St.WF.leave ?_ _ | refine St.WF.add ?_ _ | refine St.WF.set ?_ ?_ _ | refine St.WF.grow ?_ _ _ _ | refine St.WF.keep ?_ ?_ | (first | omega | (simp only [RowOk.lo, nx]; first | done | omega))))); (exact ⟨(by omega), (by (first | (simp (disch := first | decide | omega | (simp only [nx]; first | done | omega)) only [go_sem, Nat.reduceMul, lastP]; first | done | rfl) | rfl)), (by (first | (simp (disch := first | decide | omega | (simp only [nx]; first | done | omega)) only [go_sem, Nat.reduceMul, lastP]; first | done | rfl) | rfl))⟩); intro i g tn hn hT hg hI; obtain ⟨le, q11, q10⟩ := hI; have q1 := hg 1 rfl; have q2 := hg 2 rfl; have q4 := hg 4 rfl; have q7 := hg 7 rfl; have q8 := hg 8 rfl; have q9 := hg 9 rfl; simp (disch := first | decide | omega | (simp only [nx]; first | done | omega)) only [go_sem, Nat.reduceMul, lastP] at q1 q2 q4 q7 q8 q9; clear hg; have hn' := hn; try simp only [add_next, set_next, grow_next, leave_next, drop_next] at hn')
  by_cases hlt : i < v.ids.length
  · have b1 : decide ((i : Int) < (v.ids.length : Int)) = true := by simp; omega
    have w1 : IntKind.i64.wrap ((i : Int) + 1) = ((i + 1 : Nat) : Int) := IntWalk.i64_in _ ⟨by omega, by omega⟩
    by_cases hx : v.ids[i] = after
    · have b2 : ((v.ids[i] : Int) == (after : Int)) = true := by simp [hx]
      have hp : lastP v.ids after (i + 1) = i + 1 := by rw [lastP, if_pos ⟨by rw [getD_at hlt]; exact hx, hlt⟩]
      (simp (disch := first | decide | omega | (simp only [nx]; first | done | omega)) only [go_sem, Nat.reduceMul, q2, q4, q10, q11, b1, b2, w1, u64D]; (repeat (with_reducible refine And.intro (by first | omega | assumption | rfl) ?_)))
      (refine ⟨by omega, (by (repeat' first | assumption | exact St.Sub.refl _ | exact RowOk.sub (by assumption) (by assumption) | refine St.Sub.trans ?_ (RowOk.sub (by assumption) (by assumption)) | refine St.Sub.add ?_ ?_ _ | refine St.Sub.set ?_ ?_ ?_ _ | refine St.Sub.keep ?_ ?_ | refine St.WF.leave ?_ _ | refine St.WF.add ?_ _ | refine St.WF.set ?_ ?_ _ | refine St.WF.grow ?_ _ _ _ | refine St.WF.keep ?_ ?_ | (first | omega | (simp only [RowOk.lo, nx]; first | done | omega)))), ?_⟩; refine ⟨by omega, ?_, ?_⟩; all_goals (try (first | (simp (disch := first | decide | omega | (simp only [nx]; first | done | omega)) only [go_sem, Nat.reduceMul, w1, hp]; first | done | rfl) | rfl)))
    · have b2 : ((v.ids[i] : Int) == (after : Int)) = false := by simp; omega
      have hp : lastP v.ids after (i + 1) = lastP v.ids after i := by rw [lastP, if_neg (by rw [getD_at hlt]; exact fun h => hx h.1)]
      (simp (disch := first | decide | omega | (simp only [nx]; first | done | omega)) only [go_sem, Nat.reduceMul, q2, q4, q10, q11, b1, b2, w1, u64D]; (repeat (with_reducible refine And.intro (by first | omega | assumption | rfl) ?_)))
      (refine ⟨by omega, (by (repeat' first | assumption | exact St.Sub.refl _ | exact RowOk.sub (by assumption) (by assumption) | refine St.Sub.trans ?_ (RowOk.sub (by assumption) (by assumption)) | refine St.Sub.add ?_ ?_ _ | refine St.Sub.set ?_ ?_ ?_ _ | refine St.Sub.keep ?_ ?_ | refine St.WF.leave ?_ _ | refine St.WF.add ?_ _ | refine St.WF.set ?_ ?_ _ | refine St.WF.grow ?_ _ _ _ | refine St.WF.keep ?_ ?_ | (first | omega | (simp only [RowOk.lo, nx]; first | done | omega)))), ?_⟩; refine ⟨by omega, ?_, ?_⟩; all_goals (try (first | (simp (disch := first | decide | omega | (simp only [nx]; first | done | omega)) only [go_sem, Nat.reduceMul, w1, hp, q10]; first | done | rfl) | rfl)))
  · have b1 : decide ((i : Int) < (v.ids.length : Int)) = false := by simp; omega
    have hi : i = v.ids.length := by omega
    subst hi
    have hkl := plK_le v after
    -- where it comes in
    have hat : (after = 0 ∧ plK v after = 0) ∨ (after ≠ 0 ∧ plK v after = lastP v.ids after v.ids.length) := by
      by_cases h0 : after = 0
      · exact .inl ⟨h0, by rw [plK, if_pos h0]⟩
      · refine .inr ⟨h0, ?_⟩
        rw [plK, if_neg h0]
        by_cases hm : after ∈ v.ids
        · rw [if_pos hm, lastP_mem hd hm _ (ix_lt hm) (Nat.le_refl _)]
        · rw [if_neg hm, lastP_no hm _ (Nat.le_refl _)]
    rcases hat with ⟨h0, hk⟩ | ⟨h0, hk⟩
    · have b3 : ((after : Int) == 0) = true := by simp [h0]
      (simp (disch := first | decide | omega | (simp only [nx]; first | done | omega)) only [go_sem, Nat.reduceMul, q2, q4, q10, q11, b1, b3]; (repeat (with_reducible refine And.intro (by first | omega | assumption | rfl) ?_)))
      obtain ⟨T0, hT0e⟩ : ∃ T0 : St, T0 = ⟨tn, (((((S.add (.box 29 (encV v).cells)).add (.box 29 (encV x).cells)).add (.box 29 [.v (.int .i64 0), .v (.int .i64 0), .v (.string ⟨#[]⟩), .sl .full [], .sl .full [], .sl .full []])).add (.box 29 [.v (.int .i64 0), .v (.int .i64 0), .v (.string ⟨#[]⟩), .sl .full [], .sl .full [], .sl .full []])).set (S.next + 1 + 1 + 1) (.box 29 [.v (.int .i64 6), .v (.int .i64 0), .v (.string ⟨#[]⟩), .sl .full [], .sl .full [], .sl .full []])).ob⟩ := ⟨_, rfl⟩
      have hT0 : T0.WF := by rw [hT0e]; exact hT
      have hn0 : T0.next = tn := by rw [hT0e]
      have hF0 : S.Sub T0 := by rw [hT0e]; exact (by (repeat' first | assumption | exact St.Sub.refl _ | exact RowOk.sub (by assumption) (by assumption) | refine St.Sub.trans ?_ (RowOk.sub (by assumption) (by assumption)) | refine St.Sub.add ?_ ?_ _ | refine St.Sub.set ?_ ?_ ?_ _ | refine St.Sub.keep ?_ ?_ | refine St.WF.leave ?_ _ | refine St.WF.add ?_ _ | refine St.WF.set ?_ ?_ _ | refine St.WF.grow ?_ _ _ _ | refine St.WF.keep ?_ ?_ | (first | omega | (simp only [RowOk.lo, nx]; first | done | omega))))
      have u4 : T0.ob S.next = some (.box 29 (encV v).cells) := by rw [hT0e]; (first | (simp (disch := first | decide | omega | (simp only [nx]; first | done | omega)) only [go_sem, Nat.reduceMul]; first | done | rfl) | rfl)
      have u7 : T0.ob (S.next + 1) = some (.box 29 (encV x).cells) := by rw [hT0e]; (first | (simp (disch := first | decide | omega | (simp only [nx]; first | done | omega)) only [go_sem, Nat.reduceMul]; first | done | rfl) | rfl)
      have u8 : T0.ob (S.next + 1 + 1) = some (.box 29 [.v (.int .i64 0), .v (.int .i64 0), .v (.string ⟨#[]⟩), .sl .full [], .sl .full [], .sl .full []]) := by rw [hT0e]; (first | (simp (disch := first | decide | omega | (simp only [nx]; first | done | omega)) only [go_sem, Nat.reduceMul]; first | done | rfl) | rfl)
      have u9 : T0.ob (S.next + 1 + 1 + 1) = some (.box 29 [.v (.int .i64 6), .v (.int .i64 0), .v (.string ⟨#[]⟩), .sl .full [], .sl .full [], .sl .full []]) := by rw [hT0e]; (first | (simp (disch := first | decide | omega | (simp only [nx]; first | done | omega)) only [go_sem, Nat.reduceMul]; first | done | rfl) | rfl)
      rw [← hT0e]
      obtain ⟨lo, hlo⟩ : ∃ lo, lo = tn := ⟨_, rfl⟩
      obtain ⟨k, hkk⟩ : ∃ k, plK v after = k := ⟨_, rfl⟩
      rw [hkk] at hk hkl ⊢
      have heU : elT Tryz.prog 26 = some 42 := by kernel_rfl
      have heV : elT Tryz.prog 27 = some 29 := by kernel_rfl
      have hzU : szOf Tryz.prog 42 = 1 := by kernel_rfl
      have hzV : szOf Tryz.prog 29 = 6 := by kernel_rfl
      refine dloop_up (fun t => List.contains [12, 35, 36, 37, 38, 39, 40, 41, 42, 43, 44, 45, 46, 47, 48, 49, 50, 51, 52, 53, 54, 55, 56, 57, 58, 59, 60, 61, 62, 63, 64, 65, 66, 67, 68, 69, 70, 71, 72, 73, 74, 75, 76, 77, 78, 79, 80, 81] t) (by kernel_rfl) hT0 (v.ids.length + 1) (fun i g T => i ≤ v.ids.length + 1 ∧ g 12 = .v (.int .i64 ((i : Nat) : Int)) ∧ (∃ o1 o2, Two (S.next + 1 + 1 + 1) lo 42 29 outL ((insAt v.ids id k i).map u64D) ((insAt v.parts x k i).map encV) o1 o2 T) ∧ Fz (fun j => j ≠ S.next + 1 + 1 + 1 ∧ j < lo) T0 T ∧ lo ≤ T.next)
        ⟨by omega, by (first | (simp (disch := first | decide | omega | (simp only [nx]; first | done | omega)) only [go_sem, Nat.reduceMul]; first | done | rfl) | rfl), ⟨.full, .full, ⟨by rw [insAt_zero, insAt_zero]; exact u9, .inl ⟨rfl, by rw [insAt_zero]; rfl⟩, .inl ⟨rfl, by rw [insAt_zero]; rfl⟩⟩⟩, Fz.refl _ _, by omega⟩ ?_
      rintro i g2 T hT hgb ⟨le2, q12, ⟨o1, o2, h2⟩, hF, hln⟩
      (have q1b := hgb 1 rfl; have q4b := hgb 4 rfl; have q7b := hgb 7 rfl; have q8b := hgb 8 rfl; have q9b := hgb 9 rfl; have q10b := hgb 10 rfl; simp (disch := first | decide | omega | (simp only [nx]; first | done | omega)) only [go_sem, Nat.reduceMul, q1, q2, q4, q7, q8, q9, q10] at q1b q4b q7b q8b q9b q10b; clear hgb)
      have t4 := hF.ob _ _ ⟨by omega, by omega⟩ u4
      have t7 := hF.ob _ _ ⟨by omega, by omega⟩ u7
      have t8 := hF.ob _ _ ⟨by omega, by omega⟩ u8
      have t9 := h2.box
      by_cases hle : i ≤ v.ids.length
      · have b5 : decide ((i : Int) ≤ (v.ids.length : Int)) = true := by simp; omega
        have w5 : IntKind.i64.wrap ((i : Int) + 1) = ((i + 1 : Nat) : Int) := IntWalk.i64_in _ ⟨by omega, by omega⟩
        have wU : ∀ l : List Nat, ∀ d ∈ l.map u64D, d.width = szOf Tryz.prog 42 := fun l d hd => by rw [hzU]; exact wUs l d hd
        have wV : ∀ l : List DVal, ∀ d ∈ l.map encV, d.width = szOf Tryz.prog 29 := fun l d hd => by rw [hzV]; exact wVs l d hd
        have xU : ∀ n : Nat, (u64D n).width = szOf Tryz.prog 42 := fun n => by rw [hzU]; rfl
        have xV : ∀ p : DVal, (encV p).width = szOf Tryz.prog 29 := fun p => by rw [hzV]; exact cells_encV p
        have il1 := insAt_len v.ids id k i
        have il2 := insAt_len v.parts x k i
        have y4 : ∀ m m2, ((T.grow o1 42 m).grow o2 29 m2).ob S.next = some (.box 29 (encV v).cells) := fun m m2 => h2.at2 hT (by omega) t4
        have y9 : ∀ m m2, ((T.grow o1 42 m).grow o2 29 m2).ob (S.next + 1 + 1 + 1) = some (.box 29 (outL (.sl o1 ((insAt v.ids id k i).map u64D)) (.sl o2 ((insAt v.parts x k i).map encV)))) := fun m m2 => h2.at2 hT (by omega) t9
        by_cases hik : i = k
        · have b6 : ((i : Int) == (0 : Int)) = true := by simp; omega
          (simp (disch := first | decide | omega | (simp only [nx]; first | done | omega)) only [go_sem, Nat.reduceMul, q4b, q12, q10b, b5, b6, t4]; (repeat (with_reducible refine And.intro (by first | omega | assumption | rfl) ?_)))
          (refine ddraw_any (fun S' => S'.ob (S.next + 1) = some (.box 29 (encV x).cells) ∧ S'.ob (S.next + 1 + 1 + 1) = some (.box 29 (outL (.sl o1 ((insAt v.ids id k i).map u64D)) (.sl o2 ((insAt v.parts x k i).map encV))))) 11 (by (first | (simp (disch := first | decide | omega | (simp only [nx]; first | done | omega)) only [go_sem, Nat.reduceMul, t7, t9]; first | done | rfl) | rfl)) (by kernel_rfl) ?_; (refine s_take 0 rfl (by kernel_rfl) (by kernel_rfl) (v := ?v1) (fun S' hz => dquietR_of ?h1) <| s_take 1 rfl (by kernel_rfl) (by kernel_rfl) (v := ?v2) (fun S' hz => dquietR_of ?h2) <| s_take 2 rfl (by kernel_rfl) (by kernel_rfl) (v := ?v3) (fun S' hz => dquietR_of ?h3) <| s_take 3 rfl (by kernel_rfl) (by kernel_rfl) (v := ?v4) (fun S' hz => dquietR_of ?h4) <| s_take 5 rfl (by kernel_rfl) (by kernel_rfl) (v := ?v5) (fun S' hz => dquietR_of ?h5) <| s_take 6 rfl (by kernel_rfl) (by kernel_rfl) (v := ?v6) (fun S' hz => dquietR_of ?h6) <| s_take 7 rfl (by kernel_rfl) (by kernel_rfl) (v := ?v7) (fun S' hz => dquietR_of ?h7) <| s_take 8 rfl (by kernel_rfl) (by kernel_rfl) (v := ?v8) (fun S' hz => dquietR_of ?h8) <| ?k8; (case h1 | h2 | h3 | h4 | h5 | h6 | h7 | h8 => ((simp (disch := first | decide | omega | (simp only [nx]; first | done | omega)) only [go_sem, Nat.reduceMul, q1b, q7b, q9b, outL, hz]; (repeat (with_reducible refine And.intro (by first | omega | assumption | rfl) ?_))); first | done | exact rfl | omega))); (refine s_split [4] (by kernel_rfl) (by simp) ?_; intro j_ hj_; obtain rfl : j_ = 4 := (by simpa using hj_); clear hj_; refine s_op rfl ?_; (simp (disch := first | decide | omega | (simp only [nx]; first | done | omega)) only [go_sem, Nat.reduceMul]; (repeat (with_reducible refine And.intro (by first | omega | assumption | rfl) ?_)))); (refine dapp_at (lo := lo) heU (by kernel_rfl) h2.r1 (wU _) (xU id) (by simp (disch := first | decide | omega | (simp only [nx]; first | done | omega)) only [go_sem, Nat.reduceMul]; omega) (by simp (disch := first | decide | omega | (simp only [nx]; first | done | omega)) only [go_sem, Nat.reduceMul]; omega) ?_); (refine ⟨⟨h2.at1 hT (by omega) t7, h2.at1 hT (by omega) t9⟩, ?_⟩); (refine s_take 10 rfl (by kernel_rfl) (by kernel_rfl) (v := ?v9) (fun S' hz => dquietR_of ?h9) ?k9; (case h9 => ((simp (disch := first | decide | omega | (simp only [nx]; first | done | omega)) only [go_sem, Nat.reduceMul, q1b, q7b, q9b, outL, hz]; (repeat (with_reducible refine And.intro (by first | omega | assumption | rfl) ?_))); first | done | exact rfl | omega))); (refine s_split [9] (by kernel_rfl) (by simp) ?_; intro j_ hj_; obtain rfl : j_ = 9 := (by simpa using hj_); clear hj_; refine s_op rfl ?_; (simp (disch := first | decide | omega | (simp only [nx]; first | done | omega)) only [go_sem, Nat.reduceMul]; (repeat (with_reducible refine And.intro (by first | omega | assumption | rfl) ?_)))); (refine dapp_at (lo := lo) heV (by kernel_rfl) (h2.row2 hT (by decide)) (wV _) (xV x) (by simp (disch := first | decide | omega | (simp only [nx]; first | done | omega)) only [go_sem, Nat.reduceMul]; omega) (by simp (disch := first | decide | omega | (simp only [nx]; first | done | omega)) only [go_sem, Nat.reduceMul]; omega) ?_); (refine ⟨⟨h2.at2 hT (by omega) t7, h2.at2 hT (by omega) t9⟩, ?_⟩))
          (refine s_done (by kernel_rfl) ?_; (simp (disch := first | decide | omega | (simp only [nx]; first | done | omega)) only [go_sem, Nat.reduceMul, q9b, y9, outL, q4b, q12, y4]; (repeat (with_reducible refine And.intro (by first | omega | assumption | rfl) ?_))))
          have key := two_step h2 hT hln (by decide) (L1' := (insAt v.ids id k i).map u64D ++ [u64D id]) (L2' := (insAt v.parts x k i).map encV ++ [encV x]) (B := .box 29 (outL (.sl (.row T.next) ((insAt v.ids id k i).map u64D ++ [u64D id])) (.sl o2 ((insAt v.parts x k i).map encV)))) (m1 := (insAt v.ids id k i).length + 1) (m2 := (insAt v.parts x k i).length + 1) (by simp) (by simp)
          simp only [outL, u64D] at key
          revert key
          generalize St.set (St.set _ _ _) _ _ = T2
          rintro ⟨h3, hF3, hT2, hn3⟩
          obtain ⟨l1, hl1⟩ : ∃ l1, insAt v.ids id k i ++ [id] = l1 := ⟨_, rfl⟩
          obtain ⟨l2, hl2⟩ : ∃ l2, insAt v.parts x k i ++ [x] = l2 := ⟨_, rfl⟩
          have a1 : ∀ h : i < v.ids.length, insAt v.ids id k (i + 1) = l1 ++ [v.ids[i]] := fun h => by subst hik; rw [insAt_at2 h, hl1]
          have a2 : ∀ h : i < v.parts.length, insAt v.parts x k (i + 1) = l2 ++ [v.parts[i]] := fun h => by subst hik; rw [insAt_at2 h, hl2]
          have a3 : i = v.ids.length → insAt v.ids id k (i + 1) = l1 := fun h => by rw [← hl1, ← hik, h]; exact insAt_at3
          have a4 : i = v.parts.length → insAt v.parts x k (i + 1) = l2 := fun h => by rw [← hl2, ← hik, h]; exact insAt_at3
          have b1' : l1.length ≤ v.ids.length + 2 := by rw [← hl1]; simp; omega
          have b2' : l2.length ≤ v.parts.length + 2 := by rw [← hl2]; simp; omega
          have c1 : (insAt v.ids id k i).map u64D ++ [.v (.int .u64 (id : Nat))] = l1.map u64D := by rw [← hl1]; simp [u64D]
          have c2 : (insAt v.parts x k i).map encV ++ [encV x] = l2.map encV := by rw [← hl2]; simp
          rw [c1, c2] at h3
          have hF4 := hF.trans hF3
          have hln4 : lo ≤ T2.next := by omega
          clear hl1 hl2 c1 c2
          
          have t4' := hF4.ob _ _ ⟨by omega, by omega⟩ u4
          have t9' := h3.box
          have y4' : ∀ m m2, ((T2.grow (Own.row T.next) 42 m).grow (Own.row (T.next + 1)) 29 m2).ob S.next = some (.box 29 (encV v).cells) := fun m m2 => h3.at2 hT2 (by omega) t4'
          have y9' : ∀ m m2, ((T2.grow (Own.row T.next) 42 m).grow (Own.row (T.next + 1)) 29 m2).ob (S.next + 1 + 1 + 1) = some (.box 29 (outL (.sl (Own.row T.next) (l1.map u64D)) (.sl (Own.row (T.next + 1)) (l2.map encV)))) := fun m m2 => h3.at2 hT2 (by omega) t9'
          by_cases hlt : i < v.ids.length
          · have b7 : decide ((i : Int) < (v.ids.length : Int)) = true := by simp; omega
            have hlp : i < v.parts.length := by omega
            (simp (disch := first | decide | omega | (simp only [nx]; first | done | omega)) only [go_sem, Nat.reduceMul, q4b, q12, q9b, b7]; (repeat (with_reducible refine And.intro (by first | omega | assumption | rfl) ?_)))
            (refine ddraw_any (fun S' => S'.ob S.next = some (.box 29 (encV v).cells) ∧ S'.ob (S.next + 1 + 1 + 1) = some (.box 29 (outL (.sl (Own.row T.next) (l1.map u64D)) (.sl (Own.row (T.next + 1)) (l2.map encV))))) 19 (by (first | (simp (disch := first | decide | omega | (simp only [nx]; first | done | omega)) only [go_sem, Nat.reduceMul, t4', t9']; first | done | rfl) | rfl)) (by kernel_rfl) ?_; (refine s_take 0 rfl (by kernel_rfl) (by kernel_rfl) (v := ?v19) (fun S' hz => dquietR_of ?h19) <| s_take 1 rfl (by kernel_rfl) (by kernel_rfl) (v := ?v20) (fun S' hz => dquietR_of ?h20) <| s_take 2 rfl (by kernel_rfl) (by kernel_rfl) (v := ?v21) (fun S' hz => dquietR_of ?h21) <| s_take 3 rfl (by kernel_rfl) (by kernel_rfl) (v := ?v22) (fun S' hz => dquietR_of ?h22) <| s_take 4 rfl (by kernel_rfl) (by kernel_rfl) (v := ?v23) (fun S' hz => dquietR_of ?h23) <| s_take 5 rfl (by kernel_rfl) (by kernel_rfl) (v := ?v24) (fun S' hz => dquietR_of ?h24) <| s_take 6 rfl (by kernel_rfl) (by kernel_rfl) (v := ?v25) (fun S' hz => dquietR_of ?h25) <| s_take 7 rfl (by kernel_rfl) (by kernel_rfl) (v := ?v26) (fun S' hz => dquietR_of ?h26) <| s_take 9 rfl (by kernel_rfl) (by kernel_rfl) (v := ?v27) (fun S' hz => dquietR_of ?h27) <| s_take 10 rfl (by kernel_rfl) (by kernel_rfl) (v := ?v28) (fun S' hz => dquietR_of ?h28) <| s_take 11 rfl (by kernel_rfl) (by kernel_rfl) (v := ?v29) (fun S' hz => dquietR_of ?h29) <| s_take 12 rfl (by kernel_rfl) (by kernel_rfl) (v := ?v30) (fun S' hz => dquietR_of ?h30) <| s_take 13 rfl (by kernel_rfl) (by kernel_rfl) (v := ?v31) (fun S' hz => dquietR_of ?h31) <| s_take 14 rfl (by kernel_rfl) (by kernel_rfl) (v := ?v32) (fun S' hz => dquietR_of ?h32) <| s_take 15 rfl (by kernel_rfl) (by kernel_rfl) (v := ?v33) (fun S' hz => dquietR_of ?h33) <| s_take 16 rfl (by kernel_rfl) (by kernel_rfl) (v := ?v34) (fun S' hz => dquietR_of ?h34) <| ?k34; (case h19 | h20 | h21 | h22 | h23 | h24 | h25 | h26 | h27 | h28 | h29 | h30 | h31 | h32 | h33 | h34 => ((simp (disch := first | decide | omega | (simp only [nx]; first | done | omega)) only [go_sem, Nat.reduceMul, q4b, q9b, q12, outL, hlt, hlp, hz]; (repeat (with_reducible refine And.intro (by first | omega | assumption | rfl) ?_))); first | done | exact rfl | omega))); (refine s_split [8] (by kernel_rfl) (by simp) ?_; intro j_ hj_; obtain rfl : j_ = 8 := (by simpa using hj_); clear hj_; refine s_op rfl ?_; (simp (disch := first | decide | omega | (simp only [nx]; first | done | omega)) only [go_sem, Nat.reduceMul]; (repeat (with_reducible refine And.intro (by first | omega | assumption | rfl) ?_)))); (refine dapp_at (lo := lo) heU (by kernel_rfl) h3.r1 (wU _) (xU _) (by simp (disch := first | decide | omega | (simp only [nx]; first | done | omega)) only [go_sem, Nat.reduceMul]; omega) (by simp (disch := first | decide | omega | (simp only [nx]; first | done | omega)) only [go_sem, Nat.reduceMul]; omega) ?_); (refine ⟨⟨h3.at1 hT2 (by omega) t4', h3.at1 hT2 (by omega) t9'⟩, ?_⟩); (refine s_take 18 rfl (by kernel_rfl) (by kernel_rfl) (v := ?v35) (fun S' hz => dquietR_of ?h35) ?k35; (case h35 => ((simp (disch := first | decide | omega | (simp only [nx]; first | done | omega)) only [go_sem, Nat.reduceMul, q4b, q9b, q12, outL, hlt, hlp, hz]; (repeat (with_reducible refine And.intro (by first | omega | assumption | rfl) ?_))); first | done | exact rfl | omega))); (refine s_split [17] (by kernel_rfl) (by simp) ?_; intro j_ hj_; obtain rfl : j_ = 17 := (by simpa using hj_); clear hj_; refine s_op rfl ?_; (simp (disch := first | decide | omega | (simp only [nx]; first | done | omega)) only [go_sem, Nat.reduceMul]; (repeat (with_reducible refine And.intro (by first | omega | assumption | rfl) ?_)))); (refine dapp_at (lo := lo) heV (by kernel_rfl) (h3.row2 hT2 (by decide)) (wV _) (xV _) (by simp (disch := first | decide | omega | (simp only [nx]; first | done | omega)) only [go_sem, Nat.reduceMul]; omega) (by simp (disch := first | decide | omega | (simp only [nx]; first | done | omega)) only [go_sem, Nat.reduceMul]; omega) ?_); (refine ⟨⟨h3.at2 hT2 (by omega) t4', h3.at2 hT2 (by omega) t9'⟩, ?_⟩))
            (refine s_done (by kernel_rfl) ?_; (simp (disch := first | decide | omega | (simp only [nx]; first | done | omega)) only [go_sem, Nat.reduceMul, q9b, y9', outL, q4b, q12, y4', w5]; (repeat (with_reducible refine And.intro (by first | omega | assumption | rfl) ?_))))
            have key := two_step h3 hT2 hln4 (by decide) (L1' := l1.map u64D ++ [u64D v.ids[i]]) (L2' := l2.map encV ++ [encV v.parts[i]]) (B := .box 29 (outL (.sl (.row T2.next) (l1.map u64D ++ [u64D v.ids[i]])) (.sl (Own.row (T.next + 1)) (l2.map encV)))) (m1 := l1.length + 1) (m2 := l2.length + 1) (by simp) (by simp)
            simp only [outL, u64D] at key
            revert key
            generalize St.set (St.set _ _ _) _ _ = T5
            rintro ⟨h5, hF5, hT5, hn5⟩
            refine ⟨by omega, T5.ob, fun _ _ h => h, by omega, by (first | (simp (disch := first | decide | omega | (simp only [nx]; first | done | omega)) only [go_sem, Nat.reduceMul]; first | done | rfl) | rfl), ⟨(.row T2.next), (.row (T2.next + 1)), ?_⟩, (hF4.trans hF5).mono fun _ h => ⟨h.1, h.2⟩, by show lo ≤ T5.next; omega⟩
            rw [a1 hlt, a2 hlp, List.map_append, List.map_append]
            exact h5
          · have b7 : decide ((i : Int) < (v.ids.length : Int)) = false := by simp; omega
            (simp (disch := first | decide | omega | (simp only [nx]; first | done | omega)) only [go_sem, Nat.reduceMul, q4b, q12, q9b, b7, w5]; (repeat (with_reducible refine And.intro (by first | omega | assumption | rfl) ?_)))
            have hie : i = v.ids.length := by omega
            refine ⟨by omega, T2.ob, fun _ _ h => h, by omega, by (first | (simp (disch := first | decide | omega | (simp only [nx]; first | done | omega)) only [go_sem, Nat.reduceMul]; first | done | rfl) | rfl), ⟨(Own.row T.next), (Own.row (T.next + 1)), ?_⟩, hF4.mono fun _ h => ⟨h.1, h.2⟩, hln4⟩
            rw [a3 hie, a4 (by omega)]
            exact h3

        · have b6 : ((i : Int) == (0 : Int)) = false := by simp; omega
          (simp (disch := first | decide | omega | (simp only [nx]; first | done | omega)) only [go_sem, Nat.reduceMul, q4b, q12, q10b, b5, b6, t4]; (repeat (with_reducible refine And.intro (by first | omega | assumption | rfl) ?_)))
          obtain ⟨l1, hl1⟩ : ∃ l1, insAt v.ids id k i = l1 := ⟨_, rfl⟩
          obtain ⟨l2, hl2⟩ : ∃ l2, insAt v.parts x k i = l2 := ⟨_, rfl⟩
          have a1 : ∀ h : i < v.ids.length, insAt v.ids id k (i + 1) = l1 ++ [v.ids[i]] := fun h => by rw [insAt_lt hik h, hl1]
          have a2 : ∀ h : i < v.parts.length, insAt v.parts x k (i + 1) = l2 ++ [v.parts[i]] := fun h => by rw [insAt_lt hik h, hl2]
          have a3 : i = v.ids.length → insAt v.ids id k (i + 1) = l1 := fun h => by rw [← hl1, h]; exact insAt_past (by omega)
          have a4 : i = v.parts.length → insAt v.parts x k (i + 1) = l2 := fun h => by rw [← hl2, h]; exact insAt_past (by omega)
          have b1' : l1.length ≤ v.ids.length + 2 := by rw [← hl1]; omega
          have b2' : l2.length ≤ v.parts.length + 2 := by rw [← hl2]; omega
          rw [hl1, hl2] at h2
          clear hl1 hl2
          
          have t4' := hF.ob _ _ ⟨by omega, by omega⟩ u4
          have t9' := h2.box
          have y4' : ∀ m m2, ((T.grow o1 42 m).grow o2 29 m2).ob S.next = some (.box 29 (encV v).cells) := fun m m2 => h2.at2 hT (by omega) t4'
          have y9' : ∀ m m2, ((T.grow o1 42 m).grow o2 29 m2).ob (S.next + 1 + 1 + 1) = some (.box 29 (outL (.sl o1 (l1.map u64D)) (.sl o2 (l2.map encV)))) := fun m m2 => h2.at2 hT (by omega) t9'
          by_cases hlt : i < v.ids.length
          · have b7 : decide ((i : Int) < (v.ids.length : Int)) = true := by simp; omega
            have hlp : i < v.parts.length := by omega
            (simp (disch := first | decide | omega | (simp only [nx]; first | done | omega)) only [go_sem, Nat.reduceMul, q4b, q12, q9b, b7]; (repeat (with_reducible refine And.intro (by first | omega | assumption | rfl) ?_)))
            (refine ddraw_any (fun S' => S'.ob S.next = some (.box 29 (encV v).cells) ∧ S'.ob (S.next + 1 + 1 + 1) = some (.box 29 (outL (.sl o1 (l1.map u64D)) (.sl o2 (l2.map encV))))) 19 (by (first | (simp (disch := first | decide | omega | (simp only [nx]; first | done | omega)) only [go_sem, Nat.reduceMul, t4', t9']; first | done | rfl) | rfl)) (by kernel_rfl) ?_; (refine s_take 0 rfl (by kernel_rfl) (by kernel_rfl) (v := ?v36) (fun S' hz => dquietR_of ?h36) <| s_take 1 rfl (by kernel_rfl) (by kernel_rfl) (v := ?v37) (fun S' hz => dquietR_of ?h37) <| s_take 2 rfl (by kernel_rfl) (by kernel_rfl) (v := ?v38) (fun S' hz => dquietR_of ?h38) <| s_take 3 rfl (by kernel_rfl) (by kernel_rfl) (v := ?v39) (fun S' hz => dquietR_of ?h39) <| s_take 4 rfl (by kernel_rfl) (by kernel_rfl) (v := ?v40) (fun S' hz => dquietR_of ?h40) <| s_take 5 rfl (by kernel_rfl) (by kernel_rfl) (v := ?v41) (fun S' hz => dquietR_of ?h41) <| s_take 6 rfl (by kernel_rfl) (by kernel_rfl) (v := ?v42) (fun S' hz => dquietR_of ?h42) <| s_take 7 rfl (by kernel_rfl) (by kernel_rfl) (v := ?v43) (fun S' hz => dquietR_of ?h43) <| s_take 9 rfl (by kernel_rfl) (by kernel_rfl) (v := ?v44) (fun S' hz => dquietR_of ?h44) <| s_take 10 rfl (by kernel_rfl) (by kernel_rfl) (v := ?v45) (fun S' hz => dquietR_of ?h45) <| s_take 11 rfl (by kernel_rfl) (by kernel_rfl) (v := ?v46) (fun S' hz => dquietR_of ?h46) <| s_take 12 rfl (by kernel_rfl) (by kernel_rfl) (v := ?v47) (fun S' hz => dquietR_of ?h47) <| s_take 13 rfl (by kernel_rfl) (by kernel_rfl) (v := ?v48) (fun S' hz => dquietR_of ?h48) <| s_take 14 rfl (by kernel_rfl) (by kernel_rfl) (v := ?v49) (fun S' hz => dquietR_of ?h49) <| s_take 15 rfl (by kernel_rfl) (by kernel_rfl) (v := ?v50) (fun S' hz => dquietR_of ?h50) <| s_take 16 rfl (by kernel_rfl) (by kernel_rfl) (v := ?v51) (fun S' hz => dquietR_of ?h51) <| ?k51; (case h36 | h37 | h38 | h39 | h40 | h41 | h42 | h43 | h44 | h45 | h46 | h47 | h48 | h49 | h50 | h51 => ((simp (disch := first | decide | omega | (simp only [nx]; first | done | omega)) only [go_sem, Nat.reduceMul, q4b, q9b, q12, outL, hlt, hlp, hz]; (repeat (with_reducible refine And.intro (by first | omega | assumption | rfl) ?_))); first | done | exact rfl | omega))); (refine s_split [8] (by kernel_rfl) (by simp) ?_; intro j_ hj_; obtain rfl : j_ = 8 := (by simpa using hj_); clear hj_; refine s_op rfl ?_; (simp (disch := first | decide | omega | (simp only [nx]; first | done | omega)) only [go_sem, Nat.reduceMul]; (repeat (with_reducible refine And.intro (by first | omega | assumption | rfl) ?_)))); (refine dapp_at (lo := lo) heU (by kernel_rfl) h2.r1 (wU _) (xU _) (by simp (disch := first | decide | omega | (simp only [nx]; first | done | omega)) only [go_sem, Nat.reduceMul]; omega) (by simp (disch := first | decide | omega | (simp only [nx]; first | done | omega)) only [go_sem, Nat.reduceMul]; omega) ?_); (refine ⟨⟨h2.at1 hT (by omega) t4', h2.at1 hT (by omega) t9'⟩, ?_⟩); (refine s_take 18 rfl (by kernel_rfl) (by kernel_rfl) (v := ?v52) (fun S' hz => dquietR_of ?h52) ?k52; (case h52 => ((simp (disch := first | decide | omega | (simp only [nx]; first | done | omega)) only [go_sem, Nat.reduceMul, q4b, q9b, q12, outL, hlt, hlp, hz]; (repeat (with_reducible refine And.intro (by first | omega | assumption | rfl) ?_))); first | done | exact rfl | omega))); (refine s_split [17] (by kernel_rfl) (by simp) ?_; intro j_ hj_; obtain rfl : j_ = 17 := (by simpa using hj_); clear hj_; refine s_op rfl ?_; (simp (disch := first | decide | omega | (simp only [nx]; first | done | omega)) only [go_sem, Nat.reduceMul]; (repeat (with_reducible refine And.intro (by first | omega | assumption | rfl) ?_)))); (refine dapp_at (lo := lo) heV (by kernel_rfl) (h2.row2 hT (by decide)) (wV _) (xV _) (by simp (disch := first | decide | omega | (simp only [nx]; first | done | omega)) only [go_sem, Nat.reduceMul]; omega) (by simp (disch := first | decide | omega | (simp only [nx]; first | done | omega)) only [go_sem, Nat.reduceMul]; omega) ?_); (refine ⟨⟨h2.at2 hT (by omega) t4', h2.at2 hT (by omega) t9'⟩, ?_⟩))
            (refine s_done (by kernel_rfl) ?_; (simp (disch := first | decide | omega | (simp only [nx]; first | done | omega)) only [go_sem, Nat.reduceMul, q9b, y9', outL, q4b, q12, y4', w5]; (repeat (with_reducible refine And.intro (by first | omega | assumption | rfl) ?_))))
            have key := two_step h2 hT hln (by decide) (L1' := l1.map u64D ++ [u64D v.ids[i]]) (L2' := l2.map encV ++ [encV v.parts[i]]) (B := .box 29 (outL (.sl (.row T.next) (l1.map u64D ++ [u64D v.ids[i]])) (.sl o2 (l2.map encV)))) (m1 := l1.length + 1) (m2 := l2.length + 1) (by simp) (by simp)
            simp only [outL, u64D] at key
            revert key
            generalize St.set (St.set _ _ _) _ _ = T5
            rintro ⟨h5, hF5, hT5, hn5⟩
            refine ⟨by omega, T5.ob, fun _ _ h => h, by omega, by (first | (simp (disch := first | decide | omega | (simp only [nx]; first | done | omega)) only [go_sem, Nat.reduceMul]; first | done | rfl) | rfl), ⟨(.row T.next), (.row (T.next + 1)), ?_⟩, (hF.trans hF5).mono fun _ h => ⟨h.1, h.2⟩, by show lo ≤ T5.next; omega⟩
            rw [a1 hlt, a2 hlp, List.map_append, List.map_append]
            exact h5
          · have b7 : decide ((i : Int) < (v.ids.length : Int)) = false := by simp; omega
            (simp (disch := first | decide | omega | (simp only [nx]; first | done | omega)) only [go_sem, Nat.reduceMul, q4b, q12, q9b, b7, w5]; (repeat (with_reducible refine And.intro (by first | omega | assumption | rfl) ?_)))
            have hie : i = v.ids.length := by omega
            refine ⟨by omega, T.ob, fun _ _ h => h, by omega, by (first | (simp (disch := first | decide | omega | (simp only [nx]; first | done | omega)) only [go_sem, Nat.reduceMul]; first | done | rfl) | rfl), ⟨o1, o2, ?_⟩, hF.mono fun _ h => ⟨h.1, h.2⟩, hln⟩
            rw [a3 hie, a4 (by omega)]
            exact h2

      · have b5 : decide ((i : Int) ≤ (v.ids.length : Int)) = false := by simp; omega
        have hi : i = v.ids.length + 1 := by omega
        (simp (disch := first | decide | omega | (simp only [nx]; first | done | omega)) only [go_sem, Nat.reduceMul, q4b, q12, q10b, b5, t4, q9b, t9, q8b, t8, outL]; (repeat (with_reducible refine And.intro (by first | omega | assumption | rfl) ?_)))
        subst hi
        rw [insAt_end hkl, ← hl, insAt_end (by omega)]
        refine ⟨?_, ?_⟩
        · simp only [listV, encV, D.frz, frzL, frz_u64s, frz_mapV, encVs_map, sv, List.map_nil]
          rfl
        · refine ⟨by have := hF.next; show S.next ≤ T.next; omega, fun j ob e => ?_⟩
          have := hS.lt e
          rw [St.set, ]
          show (if j = S.next + 1 + 1 then _ else T.ob j) = some ob
          rw [if_neg (by omega)]
          exact hF.ob _ _ ⟨by omega, by omega⟩ (hF0.ob _ _ e)
    · have b3 : ((after : Int) == 0) = false := by simp; omega
      (simp (disch := first | decide | omega | (simp only [nx]; first | done | omega)) only [go_sem, Nat.reduceMul, q2, q4, q10, q11, b1, b3]; (repeat (with_reducible refine And.intro (by first | omega | assumption | rfl) ?_)))
      obtain ⟨T0, hT0e⟩ : ∃ T0 : St, T0 = ⟨tn, (((((S.add (.box 29 (encV v).cells)).add (.box 29 (encV x).cells)).add (.box 29 [.v (.int .i64 0), .v (.int .i64 0), .v (.string ⟨#[]⟩), .sl .full [], .sl .full [], .sl .full []])).add (.box 29 [.v (.int .i64 0), .v (.int .i64 0), .v (.string ⟨#[]⟩), .sl .full [], .sl .full [], .sl .full []])).set (S.next + 1 + 1 + 1) (.box 29 [.v (.int .i64 6), .v (.int .i64 0), .v (.string ⟨#[]⟩), .sl .full [], .sl .full [], .sl .full []])).ob⟩ := ⟨_, rfl⟩
      have hT0 : T0.WF := by rw [hT0e]; exact hT
      have hn0 : T0.next = tn := by rw [hT0e]
      have hF0 : S.Sub T0 := by rw [hT0e]; exact (by (repeat' first | assumption | exact St.Sub.refl _ | exact RowOk.sub (by assumption) (by assumption) | refine St.Sub.trans ?_ (RowOk.sub (by assumption) (by assumption)) | refine St.Sub.add ?_ ?_ _ | refine St.Sub.set ?_ ?_ ?_ _ | refine St.Sub.keep ?_ ?_ | refine St.WF.leave ?_ _ | refine St.WF.add ?_ _ | refine St.WF.set ?_ ?_ _ | refine St.WF.grow ?_ _ _ _ | refine St.WF.keep ?_ ?_ | (first | omega | (simp only [RowOk.lo, nx]; first | done | omega))))
      have u4 : T0.ob S.next = some (.box 29 (encV v).cells) := by rw [hT0e]; (first | (simp (disch := first | decide | omega | (simp only [nx]; first | done | omega)) only [go_sem, Nat.reduceMul]; first | done | rfl) | rfl)
      have u7 : T0.ob (S.next + 1) = some (.box 29 (encV x).cells) := by rw [hT0e]; (first | (simp (disch := first | decide | omega | (simp only [nx]; first | done | omega)) only [go_sem, Nat.reduceMul]; first | done | rfl) | rfl)
      have u8 : T0.ob (S.next + 1 + 1) = some (.box 29 [.v (.int .i64 0), .v (.int .i64 0), .v (.string ⟨#[]⟩), .sl .full [], .sl .full [], .sl .full []]) := by rw [hT0e]; (first | (simp (disch := first | decide | omega | (simp only [nx]; first | done | omega)) only [go_sem, Nat.reduceMul]; first | done | rfl) | rfl)
      have u9 : T0.ob (S.next + 1 + 1 + 1) = some (.box 29 [.v (.int .i64 6), .v (.int .i64 0), .v (.string ⟨#[]⟩), .sl .full [], .sl .full [], .sl .full []]) := by rw [hT0e]; (first | (simp (disch := first | decide | omega | (simp only [nx]; first | done | omega)) only [go_sem, Nat.reduceMul]; first | done | rfl) | rfl)
      rw [← hT0e]
      obtain ⟨lo, hlo⟩ : ∃ lo, lo = tn := ⟨_, rfl⟩
      obtain ⟨k, hkk⟩ : ∃ k, plK v after = k := ⟨_, rfl⟩
      rw [hkk] at hk hkl ⊢
      have heU : elT Tryz.prog 26 = some 42 := by kernel_rfl
      have heV : elT Tryz.prog 27 = some 29 := by kernel_rfl
      have hzU : szOf Tryz.prog 42 = 1 := by kernel_rfl
      have hzV : szOf Tryz.prog 29 = 6 := by kernel_rfl
      refine dloop_up (fun t => List.contains [12, 35, 36, 37, 38, 39, 40, 41, 42, 43, 44, 45, 46, 47, 48, 49, 50, 51, 52, 53, 54, 55, 56, 57, 58, 59, 60, 61, 62, 63, 64, 65, 66, 67, 68, 69, 70, 71, 72, 73, 74, 75, 76, 77, 78, 79, 80, 81] t) (by kernel_rfl) hT0 (v.ids.length + 1) (fun i g T => i ≤ v.ids.length + 1 ∧ g 12 = .v (.int .i64 ((i : Nat) : Int)) ∧ (∃ o1 o2, Two (S.next + 1 + 1 + 1) lo 42 29 outL ((insAt v.ids id k i).map u64D) ((insAt v.parts x k i).map encV) o1 o2 T) ∧ Fz (fun j => j ≠ S.next + 1 + 1 + 1 ∧ j < lo) T0 T ∧ lo ≤ T.next)
        ⟨by omega, by (first | (simp (disch := first | decide | omega | (simp only [nx]; first | done | omega)) only [go_sem, Nat.reduceMul]; first | done | rfl) | rfl), ⟨.full, .full, ⟨by rw [insAt_zero, insAt_zero]; exact u9, .inl ⟨rfl, by rw [insAt_zero]; rfl⟩, .inl ⟨rfl, by rw [insAt_zero]; rfl⟩⟩⟩, Fz.refl _ _, by omega⟩ ?_
      rintro i g2 T hT hgb ⟨le2, q12, ⟨o1, o2, h2⟩, hF, hln⟩
      (have q1b := hgb 1 rfl; have q4b := hgb 4 rfl; have q7b := hgb 7 rfl; have q8b := hgb 8 rfl; have q9b := hgb 9 rfl; have q10b := hgb 10 rfl; simp (disch := first | decide | omega | (simp only [nx]; first | done | omega)) only [go_sem, Nat.reduceMul, q1, q2, q4, q7, q8, q9, q10] at q1b q4b q7b q8b q9b q10b; clear hgb)
      have t4 := hF.ob _ _ ⟨by omega, by omega⟩ u4
      have t7 := hF.ob _ _ ⟨by omega, by omega⟩ u7
      have t8 := hF.ob _ _ ⟨by omega, by omega⟩ u8
      have t9 := h2.box
      by_cases hle : i ≤ v.ids.length
      · have b5 : decide ((i : Int) ≤ (v.ids.length : Int)) = true := by simp; omega
        have w5 : IntKind.i64.wrap ((i : Int) + 1) = ((i + 1 : Nat) : Int) := IntWalk.i64_in _ ⟨by omega, by omega⟩
        have wU : ∀ l : List Nat, ∀ d ∈ l.map u64D, d.width = szOf Tryz.prog 42 := fun l d hd => by rw [hzU]; exact wUs l d hd
        have wV : ∀ l : List DVal, ∀ d ∈ l.map encV, d.width = szOf Tryz.prog 29 := fun l d hd => by rw [hzV]; exact wVs l d hd
        have xU : ∀ n : Nat, (u64D n).width = szOf Tryz.prog 42 := fun n => by rw [hzU]; rfl
        have xV : ∀ p : DVal, (encV p).width = szOf Tryz.prog 29 := fun p => by rw [hzV]; exact cells_encV p
        have il1 := insAt_len v.ids id k i
        have il2 := insAt_len v.parts x k i
        have y4 : ∀ m m2, ((T.grow o1 42 m).grow o2 29 m2).ob S.next = some (.box 29 (encV v).cells) := fun m m2 => h2.at2 hT (by omega) t4
        have y9 : ∀ m m2, ((T.grow o1 42 m).grow o2 29 m2).ob (S.next + 1 + 1 + 1) = some (.box 29 (outL (.sl o1 ((insAt v.ids id k i).map u64D)) (.sl o2 ((insAt v.parts x k i).map encV)))) := fun m m2 => h2.at2 hT (by omega) t9
        by_cases hik : i = k
        · have b6 : ((i : Int) == ((lastP v.ids after v.ids.length : Nat) : Int)) = true := by simp; omega
          (simp (disch := first | decide | omega | (simp only [nx]; first | done | omega)) only [go_sem, Nat.reduceMul, q4b, q12, q10b, b5, b6, t4]; (repeat (with_reducible refine And.intro (by first | omega | assumption | rfl) ?_)))
          (refine ddraw_any (fun S' => S'.ob (S.next + 1) = some (.box 29 (encV x).cells) ∧ S'.ob (S.next + 1 + 1 + 1) = some (.box 29 (outL (.sl o1 ((insAt v.ids id k i).map u64D)) (.sl o2 ((insAt v.parts x k i).map encV))))) 11 (by (first | (simp (disch := first | decide | omega | (simp only [nx]; first | done | omega)) only [go_sem, Nat.reduceMul, t7, t9]; first | done | rfl) | rfl)) (by kernel_rfl) ?_; (refine s_take 0 rfl (by kernel_rfl) (by kernel_rfl) (v := ?v10) (fun S' hz => dquietR_of ?h10) <| s_take 1 rfl (by kernel_rfl) (by kernel_rfl) (v := ?v11) (fun S' hz => dquietR_of ?h11) <| s_take 2 rfl (by kernel_rfl) (by kernel_rfl) (v := ?v12) (fun S' hz => dquietR_of ?h12) <| s_take 3 rfl (by kernel_rfl) (by kernel_rfl) (v := ?v13) (fun S' hz => dquietR_of ?h13) <| s_take 5 rfl (by kernel_rfl) (by kernel_rfl) (v := ?v14) (fun S' hz => dquietR_of ?h14) <| s_take 6 rfl (by kernel_rfl) (by kernel_rfl) (v := ?v15) (fun S' hz => dquietR_of ?h15) <| s_take 7 rfl (by kernel_rfl) (by kernel_rfl) (v := ?v16) (fun S' hz => dquietR_of ?h16) <| s_take 8 rfl (by kernel_rfl) (by kernel_rfl) (v := ?v17) (fun S' hz => dquietR_of ?h17) <| ?k17; (case h10 | h11 | h12 | h13 | h14 | h15 | h16 | h17 => ((simp (disch := first | decide | omega | (simp only [nx]; first | done | omega)) only [go_sem, Nat.reduceMul, q1b, q7b, q9b, outL, hz]; (repeat (with_reducible refine And.intro (by first | omega | assumption | rfl) ?_))); first | done | exact rfl | omega))); (refine s_split [4] (by kernel_rfl) (by simp) ?_; intro j_ hj_; obtain rfl : j_ = 4 := (by simpa using hj_); clear hj_; refine s_op rfl ?_; (simp (disch := first | decide | omega | (simp only [nx]; first | done | omega)) only [go_sem, Nat.reduceMul]; (repeat (with_reducible refine And.intro (by first | omega | assumption | rfl) ?_)))); (refine dapp_at (lo := lo) heU (by kernel_rfl) h2.r1 (wU _) (xU id) (by simp (disch := first | decide | omega | (simp only [nx]; first | done | omega)) only [go_sem, Nat.reduceMul]; omega) (by simp (disch := first | decide | omega | (simp only [nx]; first | done | omega)) only [go_sem, Nat.reduceMul]; omega) ?_); (refine ⟨⟨h2.at1 hT (by omega) t7, h2.at1 hT (by omega) t9⟩, ?_⟩); (refine s_take 10 rfl (by kernel_rfl) (by kernel_rfl) (v := ?v18) (fun S' hz => dquietR_of ?h18) ?k18; (case h18 => ((simp (disch := first | decide | omega | (simp only [nx]; first | done | omega)) only [go_sem, Nat.reduceMul, q1b, q7b, q9b, outL, hz]; (repeat (with_reducible refine And.intro (by first | omega | assumption | rfl) ?_))); first | done | exact rfl | omega))); (refine s_split [9] (by kernel_rfl) (by simp) ?_; intro j_ hj_; obtain rfl : j_ = 9 := (by simpa using hj_); clear hj_; refine s_op rfl ?_; (simp (disch := first | decide | omega | (simp only [nx]; first | done | omega)) only [go_sem, Nat.reduceMul]; (repeat (with_reducible refine And.intro (by first | omega | assumption | rfl) ?_)))); (refine dapp_at (lo := lo) heV (by kernel_rfl) (h2.row2 hT (by decide)) (wV _) (xV x) (by simp (disch := first | decide | omega | (simp only [nx]; first | done | omega)) only [go_sem, Nat.reduceMul]; omega) (by simp (disch := first | decide | omega | (simp only [nx]; first | done | omega)) only [go_sem, Nat.reduceMul]; omega) ?_); (refine ⟨⟨h2.at2 hT (by omega) t7, h2.at2 hT (by omega) t9⟩, ?_⟩))
          (refine s_done (by kernel_rfl) ?_; (simp (disch := first | decide | omega | (simp only [nx]; first | done | omega)) only [go_sem, Nat.reduceMul, q9b, y9, outL, q4b, q12, y4]; (repeat (with_reducible refine And.intro (by first | omega | assumption | rfl) ?_))))
          have key := two_step h2 hT hln (by decide) (L1' := (insAt v.ids id k i).map u64D ++ [u64D id]) (L2' := (insAt v.parts x k i).map encV ++ [encV x]) (B := .box 29 (outL (.sl (.row T.next) ((insAt v.ids id k i).map u64D ++ [u64D id])) (.sl o2 ((insAt v.parts x k i).map encV)))) (m1 := (insAt v.ids id k i).length + 1) (m2 := (insAt v.parts x k i).length + 1) (by simp) (by simp)
          simp only [outL, u64D] at key
          revert key
          generalize St.set (St.set _ _ _) _ _ = T2
          rintro ⟨h3, hF3, hT2, hn3⟩
          obtain ⟨l1, hl1⟩ : ∃ l1, insAt v.ids id k i ++ [id] = l1 := ⟨_, rfl⟩
          obtain ⟨l2, hl2⟩ : ∃ l2, insAt v.parts x k i ++ [x] = l2 := ⟨_, rfl⟩
          have a1 : ∀ h : i < v.ids.length, insAt v.ids id k (i + 1) = l1 ++ [v.ids[i]] := fun h => by subst hik; rw [insAt_at2 h, hl1]
          have a2 : ∀ h : i < v.parts.length, insAt v.parts x k (i + 1) = l2 ++ [v.parts[i]] := fun h => by subst hik; rw [insAt_at2 h, hl2]
          have a3 : i = v.ids.length → insAt v.ids id k (i + 1) = l1 := fun h => by rw [← hl1, ← hik, h]; exact insAt_at3
          have a4 : i = v.parts.length → insAt v.parts x k (i + 1) = l2 := fun h => by rw [← hl2, ← hik, h]; exact insAt_at3
          have b1' : l1.length ≤ v.ids.length + 2 := by rw [← hl1]; simp; omega
          have b2' : l2.length ≤ v.parts.length + 2 := by rw [← hl2]; simp; omega
          have c1 : (insAt v.ids id k i).map u64D ++ [.v (.int .u64 (id : Nat))] = l1.map u64D := by rw [← hl1]; simp [u64D]
          have c2 : (insAt v.parts x k i).map encV ++ [encV x] = l2.map encV := by rw [← hl2]; simp
          rw [c1, c2] at h3
          have hF4 := hF.trans hF3
          have hln4 : lo ≤ T2.next := by omega
          clear hl1 hl2 c1 c2
          
          have t4' := hF4.ob _ _ ⟨by omega, by omega⟩ u4
          have t9' := h3.box
          have y4' : ∀ m m2, ((T2.grow (Own.row T.next) 42 m).grow (Own.row (T.next + 1)) 29 m2).ob S.next = some (.box 29 (encV v).cells) := fun m m2 => h3.at2 hT2 (by omega) t4'
          have y9' : ∀ m m2, ((T2.grow (Own.row T.next) 42 m).grow (Own.row (T.next + 1)) 29 m2).ob (S.next + 1 + 1 + 1) = some (.box 29 (outL (.sl (Own.row T.next) (l1.map u64D)) (.sl (Own.row (T.next + 1)) (l2.map encV)))) := fun m m2 => h3.at2 hT2 (by omega) t9'
          by_cases hlt : i < v.ids.length
          · have b7 : decide ((i : Int) < (v.ids.length : Int)) = true := by simp; omega
            have hlp : i < v.parts.length := by omega
            (simp (disch := first | decide | omega | (simp only [nx]; first | done | omega)) only [go_sem, Nat.reduceMul, q4b, q12, q9b, b7]; (repeat (with_reducible refine And.intro (by first | omega | assumption | rfl) ?_)))
            (refine ddraw_any (fun S' => S'.ob S.next = some (.box 29 (encV v).cells) ∧ S'.ob (S.next + 1 + 1 + 1) = some (.box 29 (outL (.sl (Own.row T.next) (l1.map u64D)) (.sl (Own.row (T.next + 1)) (l2.map encV))))) 19 (by (first | (simp (disch := first | decide | omega | (simp only [nx]; first | done | omega)) only [go_sem, Nat.reduceMul, t4', t9']; first | done | rfl) | rfl)) (by kernel_rfl) ?_; (refine s_take 0 rfl (by kernel_rfl) (by kernel_rfl) (v := ?v53) (fun S' hz => dquietR_of ?h53) <| s_take 1 rfl (by kernel_rfl) (by kernel_rfl) (v := ?v54) (fun S' hz => dquietR_of ?h54) <| s_take 2 rfl (by kernel_rfl) (by kernel_rfl) (v := ?v55) (fun S' hz => dquietR_of ?h55) <| s_take 3 rfl (by kernel_rfl) (by kernel_rfl) (v := ?v56) (fun S' hz => dquietR_of ?h56) <| s_take 4 rfl (by kernel_rfl) (by kernel_rfl) (v := ?v57) (fun S' hz => dquietR_of ?h57) <| s_take 5 rfl (by kernel_rfl) (by kernel_rfl) (v := ?v58) (fun S' hz => dquietR_of ?h58) <| s_take 6 rfl (by kernel_rfl) (by kernel_rfl) (v := ?v59) (fun S' hz => dquietR_of ?h59) <| s_take 7 rfl (by kernel_rfl) (by kernel_rfl) (v := ?v60) (fun S' hz => dquietR_of ?h60) <| s_take 9 rfl (by kernel_rfl) (by kernel_rfl) (v := ?v61) (fun S' hz => dquietR_of ?h61) <| s_take 10 rfl (by kernel_rfl) (by kernel_rfl) (v := ?v62) (fun S' hz => dquietR_of ?h62) <| s_take 11 rfl (by kernel_rfl) (by kernel_rfl) (v := ?v63) (fun S' hz => dquietR_of ?h63) <| s_take 12 rfl (by kernel_rfl) (by kernel_rfl) (v := ?v64) (fun S' hz => dquietR_of ?h64) <| s_take 13 rfl (by kernel_rfl) (by kernel_rfl) (v := ?v65) (fun S' hz => dquietR_of ?h65) <| s_take 14 rfl (by kernel_rfl) (by kernel_rfl) (v := ?v66) (fun S' hz => dquietR_of ?h66) <| s_take 15 rfl (by kernel_rfl) (by kernel_rfl) (v := ?v67) (fun S' hz => dquietR_of ?h67) <| s_take 16 rfl (by kernel_rfl) (by kernel_rfl) (v := ?v68) (fun S' hz => dquietR_of ?h68) <| ?k68; (case h53 | h54 | h55 | h56 | h57 | h58 | h59 | h60 | h61 | h62 | h63 | h64 | h65 | h66 | h67 | h68 => ((simp (disch := first | decide | omega | (simp only [nx]; first | done | omega)) only [go_sem, Nat.reduceMul, q4b, q9b, q12, outL, hlt, hlp, hz]; (repeat (with_reducible refine And.intro (by first | omega | assumption | rfl) ?_))); first | done | exact rfl | omega))); (refine s_split [8] (by kernel_rfl) (by simp) ?_; intro j_ hj_; obtain rfl : j_ = 8 := (by simpa using hj_); clear hj_; refine s_op rfl ?_; (simp (disch := first | decide | omega | (simp only [nx]; first | done | omega)) only [go_sem, Nat.reduceMul]; (repeat (with_reducible refine And.intro (by first | omega | assumption | rfl) ?_)))); (refine dapp_at (lo := lo) heU (by kernel_rfl) h3.r1 (wU _) (xU _) (by simp (disch := first | decide | omega | (simp only [nx]; first | done | omega)) only [go_sem, Nat.reduceMul]; omega) (by simp (disch := first | decide | omega | (simp only [nx]; first | done | omega)) only [go_sem, Nat.reduceMul]; omega) ?_); (refine ⟨⟨h3.at1 hT2 (by omega) t4', h3.at1 hT2 (by omega) t9'⟩, ?_⟩); (refine s_take 18 rfl (by kernel_rfl) (by kernel_rfl) (v := ?v69) (fun S' hz => dquietR_of ?h69) ?k69; (case h69 => ((simp (disch := first | decide | omega | (simp only [nx]; first | done | omega)) only [go_sem, Nat.reduceMul, q4b, q9b, q12, outL, hlt, hlp, hz]; (repeat (with_reducible refine And.intro (by first | omega | assumption | rfl) ?_))); first | done | exact rfl | omega))); (refine s_split [17] (by kernel_rfl) (by simp) ?_; intro j_ hj_; obtain rfl : j_ = 17 := (by simpa using hj_); clear hj_; refine s_op rfl ?_; (simp (disch := first | decide | omega | (simp only [nx]; first | done | omega)) only [go_sem, Nat.reduceMul]; (repeat (with_reducible refine And.intro (by first | omega | assumption | rfl) ?_)))); (refine dapp_at (lo := lo) heV (by kernel_rfl) (h3.row2 hT2 (by decide)) (wV _) (xV _) (by simp (disch := first | decide | omega | (simp only [nx]; first | done | omega)) only [go_sem, Nat.reduceMul]; omega) (by simp (disch := first | decide | omega | (simp only [nx]; first | done | omega)) only [go_sem, Nat.reduceMul]; omega) ?_); (refine ⟨⟨h3.at2 hT2 (by omega) t4', h3.at2 hT2 (by omega) t9'⟩, ?_⟩))
            (refine s_done (by kernel_rfl) ?_; (simp (disch := first | decide | omega | (simp only [nx]; first | done | omega)) only [go_sem, Nat.reduceMul, q9b, y9', outL, q4b, q12, y4', w5]; (repeat (with_reducible refine And.intro (by first | omega | assumption | rfl) ?_))))
            have key := two_step h3 hT2 hln4 (by decide) (L1' := l1.map u64D ++ [u64D v.ids[i]]) (L2' := l2.map encV ++ [encV v.parts[i]]) (B := .box 29 (outL (.sl (.row T2.next) (l1.map u64D ++ [u64D v.ids[i]])) (.sl (Own.row (T.next + 1)) (l2.map encV)))) (m1 := l1.length + 1) (m2 := l2.length + 1) (by simp) (by simp)
            simp only [outL, u64D] at key
            revert key
            generalize St.set (St.set _ _ _) _ _ = T5
            rintro ⟨h5, hF5, hT5, hn5⟩
            refine ⟨by omega, T5.ob, fun _ _ h => h, by omega, by (first | (simp (disch := first | decide | omega | (simp only [nx]; first | done | omega)) only [go_sem, Nat.reduceMul]; first | done | rfl) | rfl), ⟨(.row T2.next), (.row (T2.next + 1)), ?_⟩, (hF4.trans hF5).mono fun _ h => ⟨h.1, h.2⟩, by show lo ≤ T5.next; omega⟩
            rw [a1 hlt, a2 hlp, List.map_append, List.map_append]
            exact h5
          · have b7 : decide ((i : Int) < (v.ids.length : Int)) = false := by simp; omega
            (simp (disch := first | decide | omega | (simp only [nx]; first | done | omega)) only [go_sem, Nat.reduceMul, q4b, q12, q9b, b7, w5]; (repeat (with_reducible refine And.intro (by first | omega | assumption | rfl) ?_)))
            have hie : i = v.ids.length := by omega
            refine ⟨by omega, T2.ob, fun _ _ h => h, by omega, by (first | (simp (disch := first | decide | omega | (simp only [nx]; first | done | omega)) only [go_sem, Nat.reduceMul]; first | done | rfl) | rfl), ⟨(Own.row T.next), (Own.row (T.next + 1)), ?_⟩, hF4.mono fun _ h => ⟨h.1, h.2⟩, hln4⟩
            rw [a3 hie, a4 (by omega)]
            exact h3

        · have b6 : ((i : Int) == ((lastP v.ids after v.ids.length : Nat) : Int)) = false := by simp; omega
          (simp (disch := first | decide | omega | (simp only [nx]; first | done | omega)) only [go_sem, Nat.reduceMul, q4b, q12, q10b, b5, b6, t4]; (repeat (with_reducible refine And.intro (by first | omega | assumption | rfl) ?_)))
          obtain ⟨l1, hl1⟩ : ∃ l1, insAt v.ids id k i = l1 := ⟨_, rfl⟩
          obtain ⟨l2, hl2⟩ : ∃ l2, insAt v.parts x k i = l2 := ⟨_, rfl⟩
          have a1 : ∀ h : i < v.ids.length, insAt v.ids id k (i + 1) = l1 ++ [v.ids[i]] := fun h => by rw [insAt_lt hik h, hl1]
          have a2 : ∀ h : i < v.parts.length, insAt v.parts x k (i + 1) = l2 ++ [v.parts[i]] := fun h => by rw [insAt_lt hik h, hl2]
          have a3 : i = v.ids.length → insAt v.ids id k (i + 1) = l1 := fun h => by rw [← hl1, h]; exact insAt_past (by omega)
          have a4 : i = v.parts.length → insAt v.parts x k (i + 1) = l2 := fun h => by rw [← hl2, h]; exact insAt_past (by omega)
          have b1' : l1.length ≤ v.ids.length + 2 := by rw [← hl1]; omega
          have b2' : l2.length ≤ v.parts.length + 2 := by rw [← hl2]; omega
          rw [hl1, hl2] at h2
          clear hl1 hl2
          
          have t4' := hF.ob _ _ ⟨by omega, by omega⟩ u4
          have t9' := h2.box
          have y4' : ∀ m m2, ((T.grow o1 42 m).grow o2 29 m2).ob S.next = some (.box 29 (encV v).cells) := fun m m2 => h2.at2 hT (by omega) t4'
          have y9' : ∀ m m2, ((T.grow o1 42 m).grow o2 29 m2).ob (S.next + 1 + 1 + 1) = some (.box 29 (outL (.sl o1 (l1.map u64D)) (.sl o2 (l2.map encV)))) := fun m m2 => h2.at2 hT (by omega) t9'
          by_cases hlt : i < v.ids.length
          · have b7 : decide ((i : Int) < (v.ids.length : Int)) = true := by simp; omega
            have hlp : i < v.parts.length := by omega
            (simp (disch := first | decide | omega | (simp only [nx]; first | done | omega)) only [go_sem, Nat.reduceMul, q4b, q12, q9b, b7]; (repeat (with_reducible refine And.intro (by first | omega | assumption | rfl) ?_)))
            (refine ddraw_any (fun S' => S'.ob S.next = some (.box 29 (encV v).cells) ∧ S'.ob (S.next + 1 + 1 + 1) = some (.box 29 (outL (.sl o1 (l1.map u64D)) (.sl o2 (l2.map encV))))) 19 (by (first | (simp (disch := first | decide | omega | (simp only [nx]; first | done | omega)) only [go_sem, Nat.reduceMul, t4', t9']; first | done | rfl) | rfl)) (by kernel_rfl) ?_; (refine s_take 0 rfl (by kernel_rfl) (by kernel_rfl) (v := ?v70) (fun S' hz => dquietR_of ?h70) <| s_take 1 rfl (by kernel_rfl) (by kernel_rfl) (v := ?v71) (fun S' hz => dquietR_of ?h71) <| s_take 2 rfl (by kernel_rfl) (by kernel_rfl) (v := ?v72) (fun S' hz => dquietR_of ?h72) <| s_take 3 rfl (by kernel_rfl) (by kernel_rfl) (v := ?v73) (fun S' hz => dquietR_of ?h73) <| s_take 4 rfl (by kernel_rfl) (by kernel_rfl) (v := ?v74) (fun S' hz => dquietR_of ?h74) <| s_take 5 rfl (by kernel_rfl) (by kernel_rfl) (v := ?v75) (fun S' hz => dquietR_of ?h75) <| s_take 6 rfl (by kernel_rfl) (by kernel_rfl) (v := ?v76) (fun S' hz => dquietR_of ?h76) <| s_take 7 rfl (by kernel_rfl) (by kernel_rfl) (v := ?v77) (fun S' hz => dquietR_of ?h77) <| s_take 9 rfl (by kernel_rfl) (by kernel_rfl) (v := ?v78) (fun S' hz => dquietR_of ?h78) <| s_take 10 rfl (by kernel_rfl) (by kernel_rfl) (v := ?v79) (fun S' hz => dquietR_of ?h79) <| s_take 11 rfl (by kernel_rfl) (by kernel_rfl) (v := ?v80) (fun S' hz => dquietR_of ?h80) <| s_take 12 rfl (by kernel_rfl) (by kernel_rfl) (v := ?v81) (fun S' hz => dquietR_of ?h81) <| s_take 13 rfl (by kernel_rfl) (by kernel_rfl) (v := ?v82) (fun S' hz => dquietR_of ?h82) <| s_take 14 rfl (by kernel_rfl) (by kernel_rfl) (v := ?v83) (fun S' hz => dquietR_of ?h83) <| s_take 15 rfl (by kernel_rfl) (by kernel_rfl) (v := ?v84) (fun S' hz => dquietR_of ?h84) <| s_take 16 rfl (by kernel_rfl) (by kernel_rfl) (v := ?v85) (fun S' hz => dquietR_of ?h85) <| ?k85; (case h70 | h71 | h72 | h73 | h74 | h75 | h76 | h77 | h78 | h79 | h80 | h81 | h82 | h83 | h84 | h85 => ((simp (disch := first | decide | omega | (simp only [nx]; first | done | omega)) only [go_sem, Nat.reduceMul, q4b, q9b, q12, outL, hlt, hlp, hz]; (repeat (with_reducible refine And.intro (by first | omega | assumption | rfl) ?_))); first | done | exact rfl | omega))); (refine s_split [8] (by kernel_rfl) (by simp) ?_; intro j_ hj_; obtain rfl : j_ = 8 := (by simpa using hj_); clear hj_; refine s_op rfl ?_; (simp (disch := first | decide | omega | (simp only [nx]; first | done | omega)) only [go_sem, Nat.reduceMul]; (repeat (with_reducible refine And.intro (by first | omega | assumption | rfl) ?_)))); (refine dapp_at (lo := lo) heU (by kernel_rfl) h2.r1 (wU _) (xU _) (by simp (disch := first | decide | omega | (simp only [nx]; first | done | omega)) only [go_sem, Nat.reduceMul]; omega) (by simp (disch := first | decide | omega | (simp only [nx]; first | done | omega)) only [go_sem, Nat.reduceMul]; omega) ?_); (refine ⟨⟨h2.at1 hT (by omega) t4', h2.at1 hT (by omega) t9'⟩, ?_⟩); (refine s_take 18 rfl (by kernel_rfl) (by kernel_rfl) (v := ?v86) (fun S' hz => dquietR_of ?h86) ?k86; (case h86 => ((simp (disch := first | decide | omega | (simp only [nx]; first | done | omega)) only [go_sem, Nat.reduceMul, q4b, q9b, q12, outL, hlt, hlp, hz]; (repeat (with_reducible refine And.intro (by first | omega | assumption | rfl) ?_))); first | done | exact rfl | omega))); (refine s_split [17] (by kernel_rfl) (by simp) ?_; intro j_ hj_; obtain rfl : j_ = 17 := (by simpa using hj_); clear hj_; refine s_op rfl ?_; (simp (disch := first | decide | omega | (simp only [nx]; first | done | omega)) only [go_sem, Nat.reduceMul]; (repeat (with_reducible refine And.intro (by first | omega | assumption | rfl) ?_)))); (refine dapp_at (lo := lo) heV (by kernel_rfl) (h2.row2 hT (by decide)) (wV _) (xV _) (by simp (disch := first | decide | omega | (simp only [nx]; first | done | omega)) only [go_sem, Nat.reduceMul]; omega) (by simp (disch := first | decide | omega | (simp only [nx]; first | done | omega)) only [go_sem, Nat.reduceMul]; omega) ?_); (refine ⟨⟨h2.at2 hT (by omega) t4', h2.at2 hT (by omega) t9'⟩, ?_⟩))
            (refine s_done (by kernel_rfl) ?_; (simp (disch := first | decide | omega | (simp only [nx]; first | done | omega)) only [go_sem, Nat.reduceMul, q9b, y9', outL, q4b, q12, y4', w5]; (repeat (with_reducible refine And.intro (by first | omega | assumption | rfl) ?_))))
            have key := two_step h2 hT hln (by decide) (L1' := l1.map u64D ++ [u64D v.ids[i]]) (L2' := l2.map encV ++ [encV v.parts[i]]) (B := .box 29 (outL (.sl (.row T.next) (l1.map u64D ++ [u64D v.ids[i]])) (.sl o2 (l2.map encV)))) (m1 := l1.length + 1) (m2 := l2.length + 1) (by simp) (by simp)
            simp only [outL, u64D] at key
            revert key
            generalize St.set (St.set _ _ _) _ _ = T5
            rintro ⟨h5, hF5, hT5, hn5⟩
            refine ⟨by omega, T5.ob, fun _ _ h => h, by omega, by (first | (simp (disch := first | decide | omega | (simp only [nx]; first | done | omega)) only [go_sem, Nat.reduceMul]; first | done | rfl) | rfl), ⟨(.row T.next), (.row (T.next + 1)), ?_⟩, (hF.trans hF5).mono fun _ h => ⟨h.1, h.2⟩, by show lo ≤ T5.next; omega⟩
            rw [a1 hlt, a2 hlp, List.map_append, List.map_append]
            exact h5
          · have b7 : decide ((i : Int) < (v.ids.length : Int)) = false := by simp; omega
            (simp (disch := first | decide | omega | (simp only [nx]; first | done | omega)) only [go_sem, Nat.reduceMul, q4b, q12, q9b, b7, w5]; (repeat (with_reducible refine And.intro (by first | omega | assumption | rfl) ?_)))
            have hie : i = v.ids.length := by omega
            refine ⟨by omega, T.ob, fun _ _ h => h, by omega, by (first | (simp (disch := first | decide | omega | (simp only [nx]; first | done | omega)) only [go_sem, Nat.reduceMul]; first | done | rfl) | rfl), ⟨o1, o2, ?_⟩, hF.mono fun _ h => ⟨h.1, h.2⟩, hln⟩
            rw [a3 hie, a4 (by omega)]
            exact h2

      · have b5 : decide ((i : Int) ≤ (v.ids.length : Int)) = false := by simp; omega
        have hi : i = v.ids.length + 1 := by omega
        (simp (disch := first | decide | omega | (simp only [nx]; first | done | omega)) only [go_sem, Nat.reduceMul, q4b, q12, q10b, b5, t4, q9b, t9, q8b, t8, outL]; (repeat (with_reducible refine And.intro (by first | omega | assumption | rfl) ?_)))
        subst hi
        rw [insAt_end hkl, ← hl, insAt_end (by omega)]
        refine ⟨?_, ?_⟩
        · simp only [listV, encV, D.frz, frzL, frz_u64s, frz_mapV, encVs_map, sv, List.map_nil]
          rfl
        · refine ⟨by have := hF.next; show S.next ≤ T.next; omega, fun j ob e => ?_⟩
          have := hS.lt e
          rw [St.set, ]
          show (if j = S.next + 1 + 1 then _ else T.ob j) = some ob
          rw [if_neg (by omega)]
          exact hF.ob _ _ ⟨by omega, by omega⟩ (hF0.ob _ _ e)
end Go.Proofs.YtjjhjhjphhpeiaaGreatDoor

namespace Go.Proofs.YtjjhjhjphhpeiaaGreatDoor
open Go.RowKit
set_option linter.unusedSimpArgs false
set_option linter.unusedVariables false
/-- The first elements but those of a number. -/
def woI (v : DVal) (id i : Nat) : List Nat := (v.ids.take i).filter (fun a => a != id)
def woP (v : DVal) (id i : Nat) : List DVal := (((v.ids.zip v.parts).take i).filter (fun a => a.1 != id)).map (·.2)
theorem woI_ne {v : DVal} {id i : Nat} (h : i < v.ids.length) (e : v.ids[i] ≠ id) : woI v id (i + 1) = woI v id i ++ [v.ids[i]] := by
  have : (v.ids[i] != id) = true := by simp [e]
  rw [woI, List.take_succ_eq_append_getElem h, List.filter_append, List.filter_cons_of_pos (p := fun a => a != id) this, List.filter_nil, woI]
theorem woI_eq {v : DVal} {id i : Nat} (h : i < v.ids.length) (e : v.ids[i] = id) : woI v id (i + 1) = woI v id i := by
  have : ¬ (v.ids[i] != id) = true := by simp [e]
  rw [woI, List.take_succ_eq_append_getElem h, List.filter_append, List.filter_cons_of_neg (p := fun a => a != id) this, List.filter_nil, List.append_nil, woI]
theorem woP_ne {v : DVal} {id i : Nat} (h : i < v.ids.length) (h2 : i < v.parts.length) (e : v.ids[i] ≠ id) : woP v id (i + 1) = woP v id i ++ [v.parts[i]] := by
  have h3 : i < (v.ids.zip v.parts).length := by rw [List.length_zip]; omega
  have h4 : (v.ids.zip v.parts)[i] = (v.ids[i], v.parts[i]) := List.getElem_zip
  have : ((v.ids.zip v.parts)[i].1 != id) = true := by rw [h4]; simp [e]
  rw [woP, List.take_succ_eq_append_getElem h3, List.filter_append, List.filter_cons_of_pos (p := fun a : Nat × DVal => a.1 != id) this, List.filter_nil, List.map_append, List.map_cons, h4, woP]; rfl
theorem woP_eq {v : DVal} {id i : Nat} (h : i < v.ids.length) (h2 : i < v.parts.length) (e : v.ids[i] = id) : woP v id (i + 1) = woP v id i := by
  have h3 : i < (v.ids.zip v.parts).length := by rw [List.length_zip]; omega
  have h4 : (v.ids.zip v.parts)[i] = (v.ids[i], v.parts[i]) := List.getElem_zip
  have : ¬ ((v.ids.zip v.parts)[i].1 != id) = true := by rw [h4]; simp [e]
  rw [woP, List.take_succ_eq_append_getElem h3, List.filter_append, List.filter_cons_of_neg (p := fun a : Nat × DVal => a.1 != id) this, List.filter_nil, List.append_nil, woP]
theorem woI_len (v : DVal) (id i : Nat) : (woI v id i).length ≤ v.ids.length := by
  refine Nat.le_trans (List.length_filter_le _ _) ?_
  rw [List.length_take]; omega
theorem woP_len (v : DVal) (id i : Nat) : (woP v id i).length ≤ v.ids.length := by
  rw [woP, List.length_map]
  refine Nat.le_trans (List.length_filter_le _ _) ?_
  rw [List.length_take, List.length_zip]; omega
set_option maxRecDepth 200000 in
set_option maxHeartbeats 8000000 in
theorem refWithout_d (v : DVal) (id : Nat) (hl : v.parts.length = v.ids.length) (hn : v.ids.length ≤ 1000) :
    DPure Tryz.prog 42 [encV v, .v (uv id)] (encV (listV (woI v id v.ids.length) (woP v id v.ids.length))) := by
  refine dpure_of_dwp mixed Tryz.func42 rfl (fun _ _ => by kernel_rfl) (rs := [.cell 4 29]) rfl (by kernel_rfl) (closed_encV _) (fun S hS => ?_)
  (simp (disch := first | decide | omega | (simp only [nx]; first | done | omega)) only [go_sem, Nat.reduceMul, uv]; (repeat (with_reducible refine And.intro (by first | omega | assumption | rfl) ?_)))
  obtain ⟨T0, hT0e⟩ : ∃ T0 : St, T0 = (((((S.add (.box 29 (encV v).cells)).add (.box 29 [.v (.int .i64 0), .v (.int .i64 0), .v (.string ⟨#[]⟩), .sl .full [], .sl .full [], .sl .full []])).add (.box 29 [.v (.int .i64 0), .v (.int .i64 0), .v (.string ⟨#[]⟩), .sl .full [], .sl .full [], .sl .full []])).set (S.next + 1 + 1) (.box 29 [.v (.int .i64 6), .v (.int .i64 0), .v (.string ⟨#[]⟩), .sl .full [], .sl .full [], .sl .full []]))) := ⟨_, rfl⟩
  have hT0 : T0.WF := by rw [hT0e]; exact (by (repeat' first | assumption | refine St.WF.leave ?_ _ | refine St.WF.add ?_ _ | refine St.WF.set ?_ ?_ _ | refine St.WF.grow ?_ _ _ _ | refine St.WF.keep ?_ ?_ | (first | omega | (simp only [RowOk.lo, nx]; first | done | omega))))
  have hn0 : T0.next = S.next + 1 + 1 + 1 := by rw [hT0e]; simp only [add_next, set_next]
  have hF0 : S.Sub T0 := by rw [hT0e]; exact (by (repeat' first | assumption | exact St.Sub.refl _ | exact RowOk.sub (by assumption) (by assumption) | refine St.Sub.trans ?_ (RowOk.sub (by assumption) (by assumption)) | refine St.Sub.add ?_ ?_ _ | refine St.Sub.set ?_ ?_ ?_ _ | refine St.Sub.keep ?_ ?_ | refine St.WF.leave ?_ _ | refine St.WF.add ?_ _ | refine St.WF.set ?_ ?_ _ | refine St.WF.grow ?_ _ _ _ | refine St.WF.keep ?_ ?_ | (first | omega | (simp only [RowOk.lo, nx]; first | done | omega))))
  have u2 : T0.ob S.next = some (.box 29 (encV v).cells) := by rw [hT0e]; (first | (simp (disch := first | decide | omega | (simp only [nx]; first | done | omega)) only [go_sem, Nat.reduceMul]; first | done | rfl) | rfl)
  have u4 : T0.ob (S.next + 1) = some (.box 29 [.v (.int .i64 0), .v (.int .i64 0), .v (.string ⟨#[]⟩), .sl .full [], .sl .full [], .sl .full []]) := by rw [hT0e]; (first | (simp (disch := first | decide | omega | (simp only [nx]; first | done | omega)) only [go_sem, Nat.reduceMul]; first | done | rfl) | rfl)
  have u5 : T0.ob (S.next + 1 + 1) = some (.box 29 [.v (.int .i64 6), .v (.int .i64 0), .v (.string ⟨#[]⟩), .sl .full [], .sl .full [], .sl .full []]) := by rw [hT0e]; (first | (simp (disch := first | decide | omega | (simp only [nx]; first | done | omega)) only [go_sem, Nat.reduceMul]; first | done | rfl) | rfl)
  try rw [← hT0e]
  obtain ⟨lo, hlo⟩ : ∃ lo, lo = S.next + 1 + 1 + 1 := ⟨_, rfl⟩
  have heU : elT Tryz.prog 26 = some 42 := by kernel_rfl
  have heV : elT Tryz.prog 27 = some 29 := by kernel_rfl
  have hzU : szOf Tryz.prog 42 = 1 := by kernel_rfl
  have hzV : szOf Tryz.prog 29 = 6 := by kernel_rfl
  have wU : ∀ l : List Nat, ∀ d ∈ l.map u64D, d.width = szOf Tryz.prog 42 := fun l d hd => by rw [hzU]; exact wUs l d hd
  have wV : ∀ l : List DVal, ∀ d ∈ l.map encV, d.width = szOf Tryz.prog 29 := fun l d hd => by rw [hzV]; exact wVs l d hd
  have xU : ∀ n : Nat, (u64D n).width = szOf Tryz.prog 42 := fun n => by rw [hzU]; rfl
  have xV : ∀ p : DVal, (encV p).width = szOf Tryz.prog 29 := fun p => by rw [hzV]; exact cells_encV p
  refine dloop_up (fun t => List.contains [6, 8, 9, 10, 11, 12, 13, 14, 15, 16, 17, 18, 19, 20, 21, 22, 23, 24, 25, 26, 27, 28, 29, 30, 31, 32, 33, 34, 35, 36, 37, 38, 39, 40, 41] t) (by kernel_rfl) hT0 v.ids.length (fun i g T => i ≤ v.ids.length ∧ g 6 = .v (.int .i64 ((i : Nat) : Int)) ∧ (∃ o1 o2, Two (S.next + 1 + 1) lo 42 29 outL ((woI v id i).map u64D) ((woP v id i).map encV) o1 o2 T) ∧ Fz (fun j => j ≠ S.next + 1 + 1 ∧ j < lo) T0 T ∧ lo ≤ T.next)
    ⟨by omega, by (first | (simp (disch := first | decide | omega | (simp only [nx]; first | done | omega)) only [go_sem, Nat.reduceMul]; first | done | rfl) | rfl), ⟨.full, .full, ⟨u5, .inl ⟨rfl, rfl⟩, .inl ⟨rfl, rfl⟩⟩⟩, Fz.refl _ _, by omega⟩ ?_
  rintro i g2 T hT hgb ⟨le2, q6, ⟨o1, o2, h2⟩, hF, hln⟩
  (have q1b := hgb 1 rfl; have q2b := hgb 2 rfl; have q4b := hgb 4 rfl; have q5b := hgb 5 rfl; simp (disch := first | decide | omega | (simp only [nx]; first | done | omega)) only [go_sem, Nat.reduceMul] at q1b q2b q4b q5b; clear hgb)
  have t2 := hF.ob _ _ ⟨by omega, by omega⟩ u2
  have t4 := hF.ob _ _ ⟨by omega, by omega⟩ u4
  have t5 := h2.box
  have il1 := woI_len v id i
  have il2 := woP_len v id i
  have y2 : ∀ m m2, ((T.grow o1 42 m).grow o2 29 m2).ob S.next = some (.box 29 (encV v).cells) := fun m m2 => h2.at2 hT (by omega) t2
  have y5 : ∀ m m2, ((T.grow o1 42 m).grow o2 29 m2).ob (S.next + 1 + 1) = some (.box 29 (outL (.sl o1 ((woI v id i).map u64D)) (.sl o2 ((woP v id i).map encV)))) := fun m m2 => h2.at2 hT (by omega) t5
  by_cases hlt : i < v.ids.length
  · have b1 : decide ((i : Int) < (v.ids.length : Int)) = true := by simp; omega
    have w5 : IntKind.i64.wrap ((i : Int) + 1) = ((i + 1 : Nat) : Int) := IntWalk.i64_in _ ⟨by omega, by omega⟩
    have hlp : i < v.parts.length := by omega
    by_cases hx : v.ids[i] = id
    · have b2 : ((v.ids[i] : Int) != (id : Int)) = false := by simp [hx]
      (simp (disch := first | decide | omega | (simp only [nx]; first | done | omega)) only [go_sem, Nat.reduceMul, q2b, q1b, q6, b1, b2, t2, w5, u64D]; (repeat (with_reducible refine And.intro (by first | omega | assumption | rfl) ?_)))
      refine ⟨by omega, T.ob, fun _ _ h => h, by omega, by (first | (simp (disch := first | decide | omega | (simp only [nx]; first | done | omega)) only [go_sem, Nat.reduceMul]; first | done | rfl) | rfl), ⟨o1, o2, ?_⟩, hF, hln⟩
      rw [woI_eq hlt hx, woP_eq hlt hlp hx]
      exact h2
    · have b2 : ((v.ids[i] : Int) != (id : Int)) = true := by simp; omega
      (simp (disch := first | decide | omega | (simp only [nx]; first | done | omega)) only [go_sem, Nat.reduceMul, q2b, q1b, q6, b1, b2, t2, u64D]; (repeat (with_reducible refine And.intro (by first | omega | assumption | rfl) ?_)))
      (refine ddraw_any (fun S' => S'.ob S.next = some (.box 29 (encV v).cells) ∧ S'.ob (S.next + 1 + 1) = some (.box 29 (outL (.sl o1 ((woI v id i).map u64D)) (.sl o2 ((woP v id i).map encV))))) 19 (by (first | (simp (disch := first | decide | omega | (simp only [nx]; first | done | omega)) only [go_sem, Nat.reduceMul, t2, t5]; first | done | rfl) | rfl)) (by kernel_rfl) ?_; (refine s_take 0 rfl (by kernel_rfl) (by kernel_rfl) (v := ?v1) (fun S' hz => dquietR_of ?h1) <| s_take 1 rfl (by kernel_rfl) (by kernel_rfl) (v := ?v2) (fun S' hz => dquietR_of ?h2) <| s_take 2 rfl (by kernel_rfl) (by kernel_rfl) (v := ?v3) (fun S' hz => dquietR_of ?h3) <| s_take 3 rfl (by kernel_rfl) (by kernel_rfl) (v := ?v4) (fun S' hz => dquietR_of ?h4) <| s_take 4 rfl (by kernel_rfl) (by kernel_rfl) (v := ?v5) (fun S' hz => dquietR_of ?h5) <| s_take 5 rfl (by kernel_rfl) (by kernel_rfl) (v := ?v6) (fun S' hz => dquietR_of ?h6) <| s_take 6 rfl (by kernel_rfl) (by kernel_rfl) (v := ?v7) (fun S' hz => dquietR_of ?h7) <| s_take 7 rfl (by kernel_rfl) (by kernel_rfl) (v := ?v8) (fun S' hz => dquietR_of ?h8) <| s_take 9 rfl (by kernel_rfl) (by kernel_rfl) (v := ?v9) (fun S' hz => dquietR_of ?h9) <| s_take 10 rfl (by kernel_rfl) (by kernel_rfl) (v := ?v10) (fun S' hz => dquietR_of ?h10) <| s_take 11 rfl (by kernel_rfl) (by kernel_rfl) (v := ?v11) (fun S' hz => dquietR_of ?h11) <| s_take 12 rfl (by kernel_rfl) (by kernel_rfl) (v := ?v12) (fun S' hz => dquietR_of ?h12) <| s_take 13 rfl (by kernel_rfl) (by kernel_rfl) (v := ?v13) (fun S' hz => dquietR_of ?h13) <| s_take 14 rfl (by kernel_rfl) (by kernel_rfl) (v := ?v14) (fun S' hz => dquietR_of ?h14) <| s_take 15 rfl (by kernel_rfl) (by kernel_rfl) (v := ?v15) (fun S' hz => dquietR_of ?h15) <| s_take 16 rfl (by kernel_rfl) (by kernel_rfl) (v := ?v16) (fun S' hz => dquietR_of ?h16) <| ?k16; (case h1 | h2 | h3 | h4 | h5 | h6 | h7 | h8 | h9 | h10 | h11 | h12 | h13 | h14 | h15 | h16 => ((simp (disch := first | decide | omega | (simp only [nx]; first | done | omega)) only [go_sem, Nat.reduceMul, q2b, q5b, q6, outL, hlt, hlp, hz]; (repeat (with_reducible refine And.intro (by first | omega | assumption | rfl) ?_))); first | done | exact rfl | omega))); (refine s_split [8] (by kernel_rfl) (by simp) ?_; intro j_ hj_; obtain rfl : j_ = 8 := (by simpa using hj_); clear hj_; refine s_op rfl ?_; (simp (disch := first | decide | omega | (simp only [nx]; first | done | omega)) only [go_sem, Nat.reduceMul]; (repeat (with_reducible refine And.intro (by first | omega | assumption | rfl) ?_)))); (refine dapp_at (lo := lo) heU (by kernel_rfl) h2.r1 (wU _) (xU _) (by simp (disch := first | decide | omega | (simp only [nx]; first | done | omega)) only [go_sem, Nat.reduceMul]; omega) (by simp (disch := first | decide | omega | (simp only [nx]; first | done | omega)) only [go_sem, Nat.reduceMul]; omega) ?_); (refine ⟨⟨h2.at1 hT (by omega) t2, h2.at1 hT (by omega) t5⟩, ?_⟩); (refine s_take 18 rfl (by kernel_rfl) (by kernel_rfl) (v := ?v17) (fun S' hz => dquietR_of ?h17) ?k17; (case h17 => ((simp (disch := first | decide | omega | (simp only [nx]; first | done | omega)) only [go_sem, Nat.reduceMul, q2b, q5b, q6, outL, hlt, hlp, hz]; (repeat (with_reducible refine And.intro (by first | omega | assumption | rfl) ?_))); first | done | exact rfl | omega))); (refine s_split [17] (by kernel_rfl) (by simp) ?_; intro j_ hj_; obtain rfl : j_ = 17 := (by simpa using hj_); clear hj_; refine s_op rfl ?_; (simp (disch := first | decide | omega | (simp only [nx]; first | done | omega)) only [go_sem, Nat.reduceMul]; (repeat (with_reducible refine And.intro (by first | omega | assumption | rfl) ?_)))); (refine dapp_at (lo := lo) heV (by kernel_rfl) (h2.row2 hT (by decide)) (wV _) (xV _) (by simp (disch := first | decide | omega | (simp only [nx]; first | done | omega)) only [go_sem, Nat.reduceMul]; omega) (by simp (disch := first | decide | omega | (simp only [nx]; first | done | omega)) only [go_sem, Nat.reduceMul]; omega) ?_); (refine ⟨⟨h2.at2 hT (by omega) t2, h2.at2 hT (by omega) t5⟩, ?_⟩))
      (refine s_done (by kernel_rfl) ?_; (simp (disch := first | decide | omega | (simp only [nx]; first | done | omega)) only [go_sem, Nat.reduceMul, q5b, y5, outL, q2b, q6, y2, w5]; (repeat (with_reducible refine And.intro (by first | omega | assumption | rfl) ?_))))
      have key := two_step h2 hT hln (by decide) (L1' := (woI v id i).map u64D ++ [u64D v.ids[i]]) (L2' := (woP v id i).map encV ++ [encV v.parts[i]]) (B := .box 29 (outL (.sl (.row T.next) ((woI v id i).map u64D ++ [u64D v.ids[i]])) (.sl o2 ((woP v id i).map encV)))) (m1 := (woI v id i).length + 1) (m2 := (woP v id i).length + 1) (by simp) (by simp)
      simp only [outL, u64D] at key
      revert key
      generalize St.set (St.set _ _ _) _ _ = T5
      rintro ⟨h5, hF5, hT5, hn5⟩
      refine ⟨by omega, T5.ob, fun _ _ h => h, by omega, by (first | (simp (disch := first | decide | omega | (simp only [nx]; first | done | omega)) only [go_sem, Nat.reduceMul]; first | done | rfl) | rfl), ⟨(.row T.next), (.row (T.next + 1)), ?_⟩, (hF.trans hF5).mono fun _ h => ⟨h.1, h.2⟩, by show lo ≤ T5.next; omega⟩
      rw [woI_ne hlt hx, woP_ne hlt hlp hx, List.map_append, List.map_append]
      exact h5
  · have b1 : decide ((i : Int) < (v.ids.length : Int)) = false := by simp; omega
    have hi : i = v.ids.length := by omega
    (simp (disch := first | decide | omega | (simp only [nx]; first | done | omega)) only [go_sem, Nat.reduceMul, q2b, q6, b1, t2, q4b, t4, q5b, t5, outL]; (repeat (with_reducible refine And.intro (by first | omega | assumption | rfl) ?_)))
    subst hi
    refine ⟨?_, ?_⟩
    · simp only [listV, encV, D.frz, frzL, frz_u64s, frz_mapV, encVs_map, sv, List.map_nil]
      rfl
    · refine ⟨by have := hF.next; show S.next ≤ T.next; omega, fun j ob e => ?_⟩
      have := hS.lt e
      show (if j = S.next + 1 then _ else T.ob j) = some ob
      rw [if_neg (by omega)]
      exact hF.ob _ _ ⟨by omega, by omega⟩ (hF0.ob _ _ e)
end Go.Proofs.YtjjhjhjphhpeiaaGreatDoor

namespace Go.Proofs.YtjjhjhjphhpeiaaGreatDoor
open Go.RowKit
set_option linter.unusedSimpArgs false
set_option linter.unusedVariables false
def valued (k : Int) : Bool := decide (k = 1) || decide (k = 2)
theorem refValued_d (k : Int) : DPure Tryz.prog 50 [.v (.int .i64 k)] (.v (.bool (valued k))) := by
  refine dpure_of_dwp mixed Tryz.func50 rfl (fun _ _ => by kernel_rfl) (rs := [.tmp 2]) rfl (by kernel_rfl) trivial (fun S hS => ?_)
  by_cases k1 : k = 1
  · have c1 : (k == 1) = true := by simp [k1]
    (simp (disch := first | decide | omega | (simp only [nx]; first | done | omega)) only [go_sem, Nat.reduceMul, c1]; (repeat (with_reducible refine And.intro (by first | omega | assumption | rfl) ?_)))
    refine ⟨?_, (by (repeat' first | assumption | exact St.Sub.refl _ | exact RowOk.sub (by assumption) (by assumption) | refine St.Sub.trans ?_ (RowOk.sub (by assumption) (by assumption)) | refine St.Sub.add ?_ ?_ _ | refine St.Sub.set ?_ ?_ ?_ _ | refine St.Sub.keep ?_ ?_ | refine St.WF.leave ?_ _ | refine St.WF.add ?_ _ | refine St.WF.set ?_ ?_ _ | refine St.WF.grow ?_ _ _ _ | refine St.WF.keep ?_ ?_ | (first | omega | (simp only [RowOk.lo, nx]; first | done | omega))))⟩
    rw [show valued k = true from by simp [valued, k1]]; rfl
  · have c1 : (k == 1) = false := by simp [k1]
    by_cases k2 : k = 2
    · have c2 : (k == 2) = true := by simp [k2]
      (simp (disch := first | decide | omega | (simp only [nx]; first | done | omega)) only [go_sem, Nat.reduceMul, c1, c2]; (repeat (with_reducible refine And.intro (by first | omega | assumption | rfl) ?_)))
      refine ⟨?_, (by (repeat' first | assumption | exact St.Sub.refl _ | exact RowOk.sub (by assumption) (by assumption) | refine St.Sub.trans ?_ (RowOk.sub (by assumption) (by assumption)) | refine St.Sub.add ?_ ?_ _ | refine St.Sub.set ?_ ?_ ?_ _ | refine St.Sub.keep ?_ ?_ | refine St.WF.leave ?_ _ | refine St.WF.add ?_ _ | refine St.WF.set ?_ ?_ _ | refine St.WF.grow ?_ _ _ _ | refine St.WF.keep ?_ ?_ | (first | omega | (simp only [RowOk.lo, nx]; first | done | omega))))⟩
      rw [show valued k = true from by simp [valued, k2]]; rfl
    · have c2 : (k == 2) = false := by simp [k2]
      (simp (disch := first | decide | omega | (simp only [nx]; first | done | omega)) only [go_sem, Nat.reduceMul, c1, c2]; (repeat (with_reducible refine And.intro (by first | omega | assumption | rfl) ?_)))
      refine ⟨?_, (by (repeat' first | assumption | exact St.Sub.refl _ | exact RowOk.sub (by assumption) (by assumption) | refine St.Sub.trans ?_ (RowOk.sub (by assumption) (by assumption)) | refine St.Sub.add ?_ ?_ _ | refine St.Sub.set ?_ ?_ ?_ _ | refine St.Sub.keep ?_ ?_ | refine St.WF.leave ?_ _ | refine St.WF.add ?_ _ | refine St.WF.set ?_ ?_ _ | refine St.WF.grow ?_ _ _ _ | refine St.WF.keep ?_ ?_ | (first | omega | (simp only [RowOk.lo, nx]; first | done | omega))))⟩
      rw [show valued k = false from by simp [valued, k1, k2]]; rfl
/-- An operation's kind, path and value. -/
theorem rightO_kind {o : DOp} (h : o.kind < 1 ∨ 4 < o.kind) : rightO o = false := by
  rw [rightO, if_neg (by omega), if_neg (by omega), if_neg (by omega), if_neg (by omega), Bool.and_false]
theorem RS.of_typS : ∀ (ps : List DStp) {s t : DSch}, RS s → typS ps s = some t → RS t ∧ True
  | [], s, t, h1, h2 => by injection h2 with h2; subst h2; exact ⟨h1, trivial⟩
  | p :: ps, s, t, h1, h2 => by
    rw [typS_cons] at h2
    cases hq : stepT s p with
    | none => rw [hq] at h2; cases h2
    | some u => rw [hq] at h2; exact RS.of_typS ps (h1.step hq) h2
theorem ne_swap (o : DOp) : ((o.after : Int) != (o.id : Int)) = ((o.id : Int) != (o.after : Int)) := by
  rw [u64_dne, u64_dne]; exact decide_eq_decide.2 ⟨fun h e => h e.symm, fun h e => h e.symm⟩
set_option maxRecDepth 200000 in
set_option maxHeartbeats 8000000 in
theorem refOpRight_d (o : DOp) (h : OkO o) : DPure Tryz.prog 20 [encO o] (.v (.bool (rightO o))) := by
  have hwt := h.wt
  have hpl := h.path
  have hdw := DVal.depth_weight o.val.depth o.val (Nat.le_refl _)
  refine dpure_of_dwp mixed Tryz.func20 rfl (fun _ _ => by kernel_rfl) (rs := [.tmp 2]) rfl (by kernel_rfl) trivial (fun S hS => ?_)
  by_cases r1 : o.kind < 1
  · have c1 : decide (o.kind < 1) = true := by simp [r1]
    (simp (disch := first | decide | omega | (simp only [nx]; first | done | omega)) only [go_sem, Nat.reduceMul, opCs, c1]; (repeat (with_reducible refine And.intro (by first | omega | assumption | rfl) ?_)))
    refine ⟨?_, (by (repeat' first | assumption | exact St.Sub.refl _ | exact RowOk.sub (by assumption) (by assumption) | refine St.Sub.trans ?_ (RowOk.sub (by assumption) (by assumption)) | refine St.Sub.add ?_ ?_ _ | refine St.Sub.set ?_ ?_ ?_ _ | refine St.Sub.keep ?_ ?_ | refine St.WF.leave ?_ _ | refine St.WF.add ?_ _ | refine St.WF.set ?_ ?_ _ | refine St.WF.grow ?_ _ _ _ | refine St.WF.keep ?_ ?_ | (first | omega | (simp only [RowOk.lo, nx]; first | done | omega))))⟩
    rw [rightO_kind (.inl r1)]; rfl
  have c1 : decide (o.kind < 1) = false := by simp; omega
  by_cases r2 : 4 < o.kind
  · have c2 : decide (4 < o.kind) = true := by simp [r2]
    (simp (disch := first | decide | omega | (simp only [nx]; first | done | omega)) only [go_sem, Nat.reduceMul, opCs, c1, c2]; (repeat (with_reducible refine And.intro (by first | omega | assumption | rfl) ?_)))
    refine ⟨?_, (by (repeat' first | assumption | exact St.Sub.refl _ | exact RowOk.sub (by assumption) (by assumption) | refine St.Sub.trans ?_ (RowOk.sub (by assumption) (by assumption)) | refine St.Sub.add ?_ ?_ _ | refine St.Sub.set ?_ ?_ ?_ _ | refine St.Sub.keep ?_ ?_ | refine St.WF.leave ?_ _ | refine St.WF.add ?_ _ | refine St.WF.set ?_ ?_ _ | refine St.WF.grow ?_ _ _ _ | refine St.WF.keep ?_ ?_ | (first | omega | (simp only [RowOk.lo, nx]; first | done | omega))))⟩
    rw [rightO_kind (.inr r2)]; rfl
  have c2 : decide (4 < o.kind) = false := by simp; omega
  (simp (disch := first | decide | omega | (simp only [nx]; first | done | omega)) only [go_sem, Nat.reduceMul, opCs, c1, c2]; (repeat (with_reducible refine And.intro (by first | omega | assumption | rfl) ?_)))
  refine DCalls.of_pure (refRight_d .no o.path (by omega) h.names) ?_
  cases hp : rightP o.path with
  | false =>
    (simp (disch := first | decide | omega | (simp only [nx]; first | done | omega)) only [go_sem, Nat.reduceMul]; (repeat (with_reducible refine And.intro (by first | omega | assumption | rfl) ?_)))
    refine ⟨?_, (by (repeat' first | assumption | exact St.Sub.refl _ | exact RowOk.sub (by assumption) (by assumption) | refine St.Sub.trans ?_ (RowOk.sub (by assumption) (by assumption)) | refine St.Sub.add ?_ ?_ _ | refine St.Sub.set ?_ ?_ ?_ _ | refine St.Sub.keep ?_ ?_ | refine St.WF.leave ?_ _ | refine St.WF.add ?_ _ | refine St.WF.set ?_ ?_ _ | refine St.WF.grow ?_ _ _ _ | refine St.WF.keep ?_ ?_ | (first | omega | (simp only [RowOk.lo, nx]; first | done | omega))))⟩
    rw [rightO, hp]; rfl
  | true =>
  have hsm := refSameV_d o.val zeroV h.val zeroV_ok
  have hv := refValRight_d o.val h.val (by omega)
  (simp (disch := first | decide | omega | (simp only [nx]; first | done | omega)) only [go_sem, Nat.reduceMul]; (repeat (with_reducible refine And.intro (by first | omega | assumption | rfl) ?_)))
  refine DCalls.of_pure (refValued_d o.kind) ?_
  by_cases kv : o.kind = 1 ∨ o.kind = 2
  · have ev : valued o.kind = true := by simp [valued, kv]
    (simp (disch := first | decide | omega | (simp only [nx]; first | done | omega)) only [go_sem, Nat.reduceMul, ev]; (repeat (with_reducible refine And.intro (by first | omega | assumption | rfl) ?_)))
    refine DCalls.of_pure hv ?_
    cases hr : rightV 5 o.val with
    | false =>
      (simp (disch := first | decide | omega | (simp only [nx]; first | done | omega)) only [go_sem, Nat.reduceMul]; (repeat (with_reducible refine And.intro (by first | omega | assumption | rfl) ?_)))
      refine ⟨?_, (by (repeat' first | assumption | exact St.Sub.refl _ | exact RowOk.sub (by assumption) (by assumption) | refine St.Sub.trans ?_ (RowOk.sub (by assumption) (by assumption)) | refine St.Sub.add ?_ ?_ _ | refine St.Sub.set ?_ ?_ ?_ _ | refine St.Sub.keep ?_ ?_ | refine St.WF.leave ?_ _ | refine St.WF.add ?_ _ | refine St.WF.set ?_ ?_ _ | refine St.WF.grow ?_ _ _ _ | refine St.WF.keep ?_ ?_ | (first | omega | (simp only [RowOk.lo, nx]; first | done | omega))))⟩
      rcases kv with k | k
      · rw [rightO, hp, if_pos k, hr]; simp; rfl
      · rw [rightO, hp, if_neg (by omega), if_pos k, hr]; simp; rfl
    | true =>
    (simp (disch := first | decide | omega | (simp only [nx]; first | done | omega)) only [go_sem, Nat.reduceMul]; (repeat (with_reducible refine And.intro (by first | omega | assumption | rfl) ?_)))
    refine DCalls.of_pure (refValued_d o.kind) ?_
    rcases kv with k1 | k2
    · have c1 : (o.kind == 1) = true := by simp [k1]
      by_cases i0 : o.id = 0
      · by_cases a0 : o.after = 0
        · have d1 := decide_eq_true i0
          have d2 := decide_eq_true a0
          (simp (disch := first | decide | omega | (simp only [nx]; first | done | omega)) only [go_sem, Nat.reduceMul, ev, c1, u64_d0, d1, d2]; (repeat (with_reducible refine And.intro (by first | omega | assumption | rfl) ?_)))
          refine ⟨?_, (by (repeat' first | assumption | exact St.Sub.refl _ | exact RowOk.sub (by assumption) (by assumption) | refine St.Sub.trans ?_ (RowOk.sub (by assumption) (by assumption)) | refine St.Sub.add ?_ ?_ _ | refine St.Sub.set ?_ ?_ ?_ _ | refine St.Sub.keep ?_ ?_ | refine St.WF.leave ?_ _ | refine St.WF.add ?_ _ | refine St.WF.set ?_ ?_ _ | refine St.WF.grow ?_ _ _ _ | refine St.WF.keep ?_ ?_ | (first | omega | (simp only [RowOk.lo, nx]; first | done | omega))))⟩
          rw [rightO, hp, if_pos k1, d1, d2, hr]; rfl
        · have d1 := decide_eq_true i0
          have d2 := decide_eq_false a0
          (simp (disch := first | decide | omega | (simp only [nx]; first | done | omega)) only [go_sem, Nat.reduceMul, ev, c1, u64_d0, d1, d2]; (repeat (with_reducible refine And.intro (by first | omega | assumption | rfl) ?_)))
          refine ⟨?_, (by (repeat' first | assumption | exact St.Sub.refl _ | exact RowOk.sub (by assumption) (by assumption) | refine St.Sub.trans ?_ (RowOk.sub (by assumption) (by assumption)) | refine St.Sub.add ?_ ?_ _ | refine St.Sub.set ?_ ?_ ?_ _ | refine St.Sub.keep ?_ ?_ | refine St.WF.leave ?_ _ | refine St.WF.add ?_ _ | refine St.WF.set ?_ ?_ _ | refine St.WF.grow ?_ _ _ _ | refine St.WF.keep ?_ ?_ | (first | omega | (simp only [RowOk.lo, nx]; first | done | omega))))⟩
          rw [rightO, hp, if_pos k1, d1, d2]; rfl
      · have d1 := decide_eq_false i0
        (simp (disch := first | decide | omega | (simp only [nx]; first | done | omega)) only [go_sem, Nat.reduceMul, ev, c1, u64_d0, d1]; (repeat (with_reducible refine And.intro (by first | omega | assumption | rfl) ?_)))
        refine ⟨?_, (by (repeat' first | assumption | exact St.Sub.refl _ | exact RowOk.sub (by assumption) (by assumption) | refine St.Sub.trans ?_ (RowOk.sub (by assumption) (by assumption)) | refine St.Sub.add ?_ ?_ _ | refine St.Sub.set ?_ ?_ ?_ _ | refine St.Sub.keep ?_ ?_ | refine St.WF.leave ?_ _ | refine St.WF.add ?_ _ | refine St.WF.set ?_ ?_ _ | refine St.WF.grow ?_ _ _ _ | refine St.WF.keep ?_ ?_ | (first | omega | (simp only [RowOk.lo, nx]; first | done | omega))))⟩
        rw [rightO, hp, if_pos k1, d1]; rfl
    · have c1 : (o.kind == 1) = false := by simp [k2]
      have c3 : (o.kind == 3) = false := by simp [k2]
      by_cases i0 : o.id ≠ 0
      · by_cases a0 : o.id ≠ o.after
        · have d1 := decide_eq_true i0
          have d2 := decide_eq_true a0
          (simp (disch := first | decide | omega | (simp only [nx]; first | done | omega)) only [go_sem, Nat.reduceMul, ev, c1, c3, u64_n0, ne_swap o, u64_dne, d1, d2]; (repeat (with_reducible refine And.intro (by first | omega | assumption | rfl) ?_)))
          refine ⟨?_, (by (repeat' first | assumption | exact St.Sub.refl _ | exact RowOk.sub (by assumption) (by assumption) | refine St.Sub.trans ?_ (RowOk.sub (by assumption) (by assumption)) | refine St.Sub.add ?_ ?_ _ | refine St.Sub.set ?_ ?_ ?_ _ | refine St.Sub.keep ?_ ?_ | refine St.WF.leave ?_ _ | refine St.WF.add ?_ _ | refine St.WF.set ?_ ?_ _ | refine St.WF.grow ?_ _ _ _ | refine St.WF.keep ?_ ?_ | (first | omega | (simp only [RowOk.lo, nx]; first | done | omega))))⟩
          rw [rightO, hp, if_neg (by omega), if_pos k2, d1, d2, hr]; rfl
        · have d1 := decide_eq_true i0
          have d2 := decide_eq_false a0
          (simp (disch := first | decide | omega | (simp only [nx]; first | done | omega)) only [go_sem, Nat.reduceMul, ev, c1, c3, u64_n0, ne_swap o, u64_dne, d1, d2]; (repeat (with_reducible refine And.intro (by first | omega | assumption | rfl) ?_)))
          refine ⟨?_, (by (repeat' first | assumption | exact St.Sub.refl _ | exact RowOk.sub (by assumption) (by assumption) | refine St.Sub.trans ?_ (RowOk.sub (by assumption) (by assumption)) | refine St.Sub.add ?_ ?_ _ | refine St.Sub.set ?_ ?_ ?_ _ | refine St.Sub.keep ?_ ?_ | refine St.WF.leave ?_ _ | refine St.WF.add ?_ _ | refine St.WF.set ?_ ?_ _ | refine St.WF.grow ?_ _ _ _ | refine St.WF.keep ?_ ?_ | (first | omega | (simp only [RowOk.lo, nx]; first | done | omega))))⟩
          rw [rightO, hp, if_neg (by omega), if_pos k2, d1, d2]; rfl
      · have d1 := decide_eq_false i0
        (simp (disch := first | decide | omega | (simp only [nx]; first | done | omega)) only [go_sem, Nat.reduceMul, ev, c1, c3, u64_n0, d1]; (repeat (with_reducible refine And.intro (by first | omega | assumption | rfl) ?_)))
        refine ⟨?_, (by (repeat' first | assumption | exact St.Sub.refl _ | exact RowOk.sub (by assumption) (by assumption) | refine St.Sub.trans ?_ (RowOk.sub (by assumption) (by assumption)) | refine St.Sub.add ?_ ?_ _ | refine St.Sub.set ?_ ?_ ?_ _ | refine St.Sub.keep ?_ ?_ | refine St.WF.leave ?_ _ | refine St.WF.add ?_ _ | refine St.WF.set ?_ ?_ _ | refine St.WF.grow ?_ _ _ _ | refine St.WF.keep ?_ ?_ | (first | omega | (simp only [RowOk.lo, nx]; first | done | omega))))⟩
        rw [rightO, hp, if_neg (by omega), if_pos k2, d1]; rfl
  · have ev : valued o.kind = false := by simp [valued]; omega
    have k1 : ¬ o.kind = 1 := by omega
    have k2 : ¬ o.kind = 2 := by omega
    have c1 : (o.kind == 1) = false := by simp [k1]
    (simp (disch := first | decide | omega | (simp only [nx]; first | done | omega)) only [go_sem, Nat.reduceMul, ev]; (repeat (with_reducible refine And.intro (by first | omega | assumption | rfl) ?_)))
    refine DCalls.of_pure (refValued_d o.kind) ?_
    (simp (disch := first | decide | omega | (simp only [nx]; first | done | omega)) only [go_sem, Nat.reduceMul, ev]; (repeat (with_reducible refine And.intro (by first | omega | assumption | rfl) ?_)))
    refine DCalls.of_pure (DPure.weak hsm (by simp only [frzL, frz_encV]; rfl)) ?_
    cases hs : eqB o.val zeroV with
    | false =>
      (simp (disch := first | decide | omega | (simp only [nx]; first | done | omega)) only [go_sem, Nat.reduceMul]; (repeat (with_reducible refine And.intro (by first | omega | assumption | rfl) ?_)))
      refine ⟨?_, (by (repeat' first | assumption | exact St.Sub.refl _ | exact RowOk.sub (by assumption) (by assumption) | refine St.Sub.trans ?_ (RowOk.sub (by assumption) (by assumption)) | refine St.Sub.add ?_ ?_ _ | refine St.Sub.set ?_ ?_ ?_ _ | refine St.Sub.keep ?_ ?_ | refine St.WF.leave ?_ _ | refine St.WF.add ?_ _ | refine St.WF.set ?_ ?_ _ | refine St.WF.grow ?_ _ _ _ | refine St.WF.keep ?_ ?_ | (first | omega | (simp only [RowOk.lo, nx]; first | done | omega))))⟩
      by_cases k : o.kind = 3
      · rw [rightO, hp, if_neg k1, if_neg k2, if_pos k, hs]; simp; rfl
      · rw [rightO, hp, if_neg k1, if_neg k2, if_neg k, if_pos (by omega), hs]; simp; rfl
    | true =>
    by_cases k3 : o.kind = 3
    · have c3 : (o.kind == 3) = true := by simp [k3]
      by_cases i0 : o.id ≠ 0
      · by_cases a0 : o.after = 0
        · have d1 := decide_eq_true i0
          have d2 := decide_eq_true a0
          (simp (disch := first | decide | omega | (simp only [nx]; first | done | omega)) only [go_sem, Nat.reduceMul, ev, c1, c3, u64_n0, u64_d0, d1, d2]; (repeat (with_reducible refine And.intro (by first | omega | assumption | rfl) ?_)))
          refine ⟨?_, (by (repeat' first | assumption | exact St.Sub.refl _ | exact RowOk.sub (by assumption) (by assumption) | refine St.Sub.trans ?_ (RowOk.sub (by assumption) (by assumption)) | refine St.Sub.add ?_ ?_ _ | refine St.Sub.set ?_ ?_ ?_ _ | refine St.Sub.keep ?_ ?_ | refine St.WF.leave ?_ _ | refine St.WF.add ?_ _ | refine St.WF.set ?_ ?_ _ | refine St.WF.grow ?_ _ _ _ | refine St.WF.keep ?_ ?_ | (first | omega | (simp only [RowOk.lo, nx]; first | done | omega))))⟩
          rw [rightO, hp, if_neg k1, if_neg k2, if_pos k3, d1, d2, hs]; rfl
        · have d1 := decide_eq_true i0
          have d2 := decide_eq_false a0
          (simp (disch := first | decide | omega | (simp only [nx]; first | done | omega)) only [go_sem, Nat.reduceMul, ev, c1, c3, u64_n0, u64_d0, d1, d2]; (repeat (with_reducible refine And.intro (by first | omega | assumption | rfl) ?_)))
          refine ⟨?_, (by (repeat' first | assumption | exact St.Sub.refl _ | exact RowOk.sub (by assumption) (by assumption) | refine St.Sub.trans ?_ (RowOk.sub (by assumption) (by assumption)) | refine St.Sub.add ?_ ?_ _ | refine St.Sub.set ?_ ?_ ?_ _ | refine St.Sub.keep ?_ ?_ | refine St.WF.leave ?_ _ | refine St.WF.add ?_ _ | refine St.WF.set ?_ ?_ _ | refine St.WF.grow ?_ _ _ _ | refine St.WF.keep ?_ ?_ | (first | omega | (simp only [RowOk.lo, nx]; first | done | omega))))⟩
          rw [rightO, hp, if_neg k1, if_neg k2, if_pos k3, d1, d2]; rfl
      · have d1 := decide_eq_false i0
        (simp (disch := first | decide | omega | (simp only [nx]; first | done | omega)) only [go_sem, Nat.reduceMul, ev, c1, c3, u64_n0, u64_d0, d1]; (repeat (with_reducible refine And.intro (by first | omega | assumption | rfl) ?_)))
        refine ⟨?_, (by (repeat' first | assumption | exact St.Sub.refl _ | exact RowOk.sub (by assumption) (by assumption) | refine St.Sub.trans ?_ (RowOk.sub (by assumption) (by assumption)) | refine St.Sub.add ?_ ?_ _ | refine St.Sub.set ?_ ?_ ?_ _ | refine St.Sub.keep ?_ ?_ | refine St.WF.leave ?_ _ | refine St.WF.add ?_ _ | refine St.WF.set ?_ ?_ _ | refine St.WF.grow ?_ _ _ _ | refine St.WF.keep ?_ ?_ | (first | omega | (simp only [RowOk.lo, nx]; first | done | omega))))⟩
        rw [rightO, hp, if_neg k1, if_neg k2, if_pos k3, d1]; rfl
    · have c3 : (o.kind == 3) = false := by simp [k3]
      have k4 : o.kind = 4 := by omega
      by_cases i0 : o.id ≠ 0
      · by_cases a0 : o.id ≠ o.after
        · have d1 := decide_eq_true i0
          have d2 := decide_eq_true a0
          (simp (disch := first | decide | omega | (simp only [nx]; first | done | omega)) only [go_sem, Nat.reduceMul, ev, c1, c3, u64_n0, ne_swap o, u64_dne, d1, d2]; (repeat (with_reducible refine And.intro (by first | omega | assumption | rfl) ?_)))
          refine ⟨?_, (by (repeat' first | assumption | exact St.Sub.refl _ | exact RowOk.sub (by assumption) (by assumption) | refine St.Sub.trans ?_ (RowOk.sub (by assumption) (by assumption)) | refine St.Sub.add ?_ ?_ _ | refine St.Sub.set ?_ ?_ ?_ _ | refine St.Sub.keep ?_ ?_ | refine St.WF.leave ?_ _ | refine St.WF.add ?_ _ | refine St.WF.set ?_ ?_ _ | refine St.WF.grow ?_ _ _ _ | refine St.WF.keep ?_ ?_ | (first | omega | (simp only [RowOk.lo, nx]; first | done | omega))))⟩
          rw [rightO, hp, if_neg k1, if_neg k2, if_neg k3, if_pos k4, d1, d2, hs]; rfl
        · have d1 := decide_eq_true i0
          have d2 := decide_eq_false a0
          (simp (disch := first | decide | omega | (simp only [nx]; first | done | omega)) only [go_sem, Nat.reduceMul, ev, c1, c3, u64_n0, ne_swap o, u64_dne, d1, d2]; (repeat (with_reducible refine And.intro (by first | omega | assumption | rfl) ?_)))
          refine ⟨?_, (by (repeat' first | assumption | exact St.Sub.refl _ | exact RowOk.sub (by assumption) (by assumption) | refine St.Sub.trans ?_ (RowOk.sub (by assumption) (by assumption)) | refine St.Sub.add ?_ ?_ _ | refine St.Sub.set ?_ ?_ ?_ _ | refine St.Sub.keep ?_ ?_ | refine St.WF.leave ?_ _ | refine St.WF.add ?_ _ | refine St.WF.set ?_ ?_ _ | refine St.WF.grow ?_ _ _ _ | refine St.WF.keep ?_ ?_ | (first | omega | (simp only [RowOk.lo, nx]; first | done | omega))))⟩
          rw [rightO, hp, if_neg k1, if_neg k2, if_neg k3, if_pos k4, d1, d2]; rfl
      · have d1 := decide_eq_false i0
        (simp (disch := first | decide | omega | (simp only [nx]; first | done | omega)) only [go_sem, Nat.reduceMul, ev, c1, c3, u64_n0, d1]; (repeat (with_reducible refine And.intro (by first | omega | assumption | rfl) ?_)))
        refine ⟨?_, (by (repeat' first | assumption | exact St.Sub.refl _ | exact RowOk.sub (by assumption) (by assumption) | refine St.Sub.trans ?_ (RowOk.sub (by assumption) (by assumption)) | refine St.Sub.add ?_ ?_ _ | refine St.Sub.set ?_ ?_ ?_ _ | refine St.Sub.keep ?_ ?_ | refine St.WF.leave ?_ _ | refine St.WF.add ?_ _ | refine St.WF.set ?_ ?_ _ | refine St.WF.grow ?_ _ _ _ | refine St.WF.keep ?_ ?_ | (first | omega | (simp only [RowOk.lo, nx]; first | done | omega))))⟩
        rw [rightO, hp, if_neg k1, if_neg k2, if_neg k3, if_pos k4, d1]; rfl
set_option maxRecDepth 200000 in
set_option maxHeartbeats 8000000 in
theorem refCheck_d (o : DOp) (s : DSch) (h : OkO o) (hs : okS s) (hsw : s.weight ≤ 1000) : DPure Tryz.prog 13 [encO o, encS s] (.v (.int .i64 ((chkO o s : Nat) : Int))) := by
  have hwt := h.wt
  have hpl := h.path
  have hdw := DVal.depth_weight o.val.depth o.val (Nat.le_refl _)
  have hsd := DSch.depth_weight s.depth s (Nat.le_refl _)
  refine dpure_of_dwp mixed Tryz.func13 rfl (fun _ _ => by kernel_rfl) (rs := [.tmp 4]) rfl (by kernel_rfl) trivial (fun S hS => ?_)
  (simp (disch := first | decide | omega | (simp only [nx]; first | done | omega)) only [go_sem, Nat.reduceMul]; (repeat (with_reducible refine And.intro (by first | omega | assumption | rfl) ?_)))
  refine DCalls.of_pure (refOpRight_d o h) ?_
  cases hr : rightO o with
  | false =>
    (simp (disch := first | decide | omega | (simp only [nx]; first | done | omega)) only [go_sem, Nat.reduceMul]; (repeat (with_reducible refine And.intro (by first | omega | assumption | rfl) ?_)))
    refine ⟨?_, (by (repeat' first | assumption | exact St.Sub.refl _ | exact RowOk.sub (by assumption) (by assumption) | refine St.Sub.trans ?_ (RowOk.sub (by assumption) (by assumption)) | refine St.Sub.add ?_ ?_ _ | refine St.Sub.set ?_ ?_ ?_ _ | refine St.Sub.keep ?_ ?_ | refine St.WF.leave ?_ _ | refine St.WF.add ?_ _ | refine St.WF.set ?_ ?_ _ | refine St.WF.grow ?_ _ _ _ | refine St.WF.keep ?_ ?_ | (first | omega | (simp only [RowOk.lo, nx]; first | done | omega))))⟩
    rw [chkO, if_neg (by rw [hr]; simp)]; rfl
  | true =>
  (simp (disch := first | decide | omega | (simp only [nx]; first | done | omega)) only [go_sem, Nat.reduceMul]; (repeat (with_reducible refine And.intro (by first | omega | assumption | rfl) ?_)))
  refine DCalls.of_pure (refSchRight_d s hs (by omega)) ?_
  cases hrs : rightS 5 s with
  | false =>
    (simp (disch := first | decide | omega | (simp only [nx]; first | done | omega)) only [go_sem, Nat.reduceMul]; (repeat (with_reducible refine And.intro (by first | omega | assumption | rfl) ?_)))
    refine ⟨?_, (by (repeat' first | assumption | exact St.Sub.refl _ | exact RowOk.sub (by assumption) (by assumption) | refine St.Sub.trans ?_ (RowOk.sub (by assumption) (by assumption)) | refine St.Sub.add ?_ ?_ _ | refine St.Sub.set ?_ ?_ ?_ _ | refine St.Sub.keep ?_ ?_ | refine St.WF.leave ?_ _ | refine St.WF.add ?_ _ | refine St.WF.set ?_ ?_ _ | refine St.WF.grow ?_ _ _ _ | refine St.WF.keep ?_ ?_ | (first | omega | (simp only [RowOk.lo, nx]; first | done | omega))))⟩
    rw [chkO, if_neg (by rw [hrs]; simp)]; rfl
  | true =>
  have hc : chkO o s = (match typS o.path s with | some t => if fitO o t = true then 0 else 6 | none => 6) := by rw [chkO, if_pos ⟨hr, hrs⟩]; rfl
  obtain ⟨hRS, hdep⟩ := RS.of_top hrs
  (simp (disch := first | decide | omega | (simp only [nx]; first | done | omega)) only [go_sem, Nat.reduceMul, opCs]; (repeat (with_reducible refine And.intro (by first | omega | assumption | rfl) ?_)))
  refine DCalls.of_pure (refType_d o.path .no s hs (by omega) (by omega)) ?_
  cases ht : typS o.path s with
  | none =>
    (simp (disch := first | decide | omega | (simp only [nx]; first | done | omega)) only [go_sem, Nat.reduceMul, tupS, Option.getD_none, Option.isSome_none]; (repeat (with_reducible refine And.intro (by first | omega | assumption | rfl) ?_)))
    refine ddraw_mk 39 (by kernel_rfl) ?_
    (simp (disch := first | decide | omega | (simp only [nx]; first | done | omega)) only [go_sem, Nat.reduceMul]; (repeat (with_reducible refine And.intro (by first | omega | assumption | rfl) ?_)))
    refine ⟨?_, (by (repeat' first | assumption | exact St.Sub.refl _ | exact RowOk.sub (by assumption) (by assumption) | refine St.Sub.trans ?_ (RowOk.sub (by assumption) (by assumption)) | refine St.Sub.add ?_ ?_ _ | refine St.Sub.set ?_ ?_ ?_ _ | refine St.Sub.keep ?_ ?_ | refine St.WF.leave ?_ _ | refine St.WF.add ?_ _ | refine St.WF.set ?_ ?_ _ | refine St.WF.grow ?_ _ _ _ | refine St.WF.keep ?_ ?_ | (first | omega | (simp only [RowOk.lo, nx]; first | done | omega))))⟩
    rw [hc, ht]; rfl
  | some t =>
  obtain ⟨hto, htw⟩ := typS_fine _ ht hs (by omega)
  have htd := DSch.depth_weight t.depth t (Nat.le_refl _)
  rw [ht] at hc
  simp only at hc
  by_cases k1 : o.kind = 1
  · have c1 : (o.kind == 1) = true := by simp [k1]
    have g1 : decide (1 < o.kind) = false := by simp; omega
    have c2 : (o.kind == 2) = false := by simp [k1]
    (simp (disch := first | decide | omega | (simp only [nx]; first | done | omega)) only [go_sem, Nat.reduceMul, tupS, Option.getD_some, Option.isSome_some, c1, c2, g1]; (repeat (with_reducible refine And.intro (by first | omega | assumption | rfl) ?_)))
    refine ddraw_mk 39 (by kernel_rfl) ?_
    (simp (disch := first | decide | omega | (simp only [nx]; first | done | omega)) only [go_sem, Nat.reduceMul, opCs, c1, c2, g1]; (repeat (with_reducible refine And.intro (by first | omega | assumption | rfl) ?_)))
    refine dqgo_mk (refFitsTop_d o.val t h.val hto (by omega) (by omega)) ?_
    have hf : fitO o t = fitsTop o.val t := by rw [fitO, if_pos k1]
    cases hft : fitsTop o.val t with
    | true =>
      (simp (disch := first | decide | omega | (simp only [nx]; first | done | omega)) only [go_sem, Nat.reduceMul, opCs, c1, c2, g1]; (repeat (with_reducible refine And.intro (by first | omega | assumption | rfl) ?_)))
      refine ⟨?_, (by (repeat' first | assumption | exact St.Sub.refl _ | exact RowOk.sub (by assumption) (by assumption) | refine St.Sub.trans ?_ (RowOk.sub (by assumption) (by assumption)) | refine St.Sub.add ?_ ?_ _ | refine St.Sub.set ?_ ?_ ?_ _ | refine St.Sub.keep ?_ ?_ | refine St.WF.leave ?_ _ | refine St.WF.add ?_ _ | refine St.WF.set ?_ ?_ _ | refine St.WF.grow ?_ _ _ _ | refine St.WF.keep ?_ ?_ | (first | omega | (simp only [RowOk.lo, nx]; first | done | omega))))⟩
      rw [hc, hf, hft]; rfl
    | false =>
      (simp (disch := first | decide | omega | (simp only [nx]; first | done | omega)) only [go_sem, Nat.reduceMul, opCs, c1, c2, g1]; (repeat (with_reducible refine And.intro (by first | omega | assumption | rfl) ?_)))
      refine ⟨?_, (by (repeat' first | assumption | exact St.Sub.refl _ | exact RowOk.sub (by assumption) (by assumption) | refine St.Sub.trans ?_ (RowOk.sub (by assumption) (by assumption)) | refine St.Sub.add ?_ ?_ _ | refine St.Sub.set ?_ ?_ ?_ _ | refine St.Sub.keep ?_ ?_ | refine St.WF.leave ?_ _ | refine St.WF.add ?_ _ | refine St.WF.set ?_ ?_ _ | refine St.WF.grow ?_ _ _ _ | refine St.WF.keep ?_ ?_ | (first | omega | (simp only [RowOk.lo, nx]; first | done | omega))))⟩
      rw [hc, hf, hft]; rfl
  have c1 : (o.kind == 1) = false := by simp [k1]
  have hk : 1 ≤ o.kind := by
    by_cases hh : 1 ≤ o.kind
    · exact hh
    · rw [rightO_kind (.inl (by omega))] at hr; cases hr
  have g1 : decide (1 < o.kind) = true := by simp; omega
  by_cases t6 : t.kind = 6
  · have c6 : (t.kind != 6) = false := by simp [t6]
    by_cases k2 : o.kind = 2
    · have c2 : (o.kind == 2) = true := by simp [k2]
      obtain ⟨hRt, _⟩ := RS.of_typS _ hRS ht
      have hp1 := hRt.here.2 t6
      have hp0 : 0 < t.parts.length := by omega
      have g0 := getD_map encS t.parts 0 hp0
      have hp0i : (0 : Int) < (t.parts.length : Int) := by omega
      have hto0 : okS t.parts[0] := ((okS_eq t).1 hto).2.2.2.2 _ (List.getElem_mem hp0)
      have htd0 := DSch.depth_part (List.getElem_mem hp0)
      (simp (disch := first | decide | omega | (simp only [nx]; first | done | omega)) only [go_sem, Nat.reduceMul, tupS, Option.getD_some, Option.isSome_some, c1, c2, g1, c6]; (repeat (with_reducible refine And.intro (by first | omega | assumption | rfl) ?_)))
      refine ddraw_mk 39 (by kernel_rfl) ?_
      (simp (disch := first | decide | omega | (simp only [nx]; first | done | omega)) only [go_sem, Nat.reduceMul, opCs, c1, c2, g1, c6, g0, hp0i]; (repeat (with_reducible refine And.intro (by first | omega | assumption | rfl) ?_)))
      refine dqgo_mk (refFitsTop_d o.val t.parts[0] h.val hto0 (by omega) (by omega)) ?_
      have hf : fitO o t = fitsTop o.val t.parts[0] := by rw [fitO, if_neg k1, if_pos t6, if_pos k2, getD_at hp0]
      cases hft : fitsTop o.val t.parts[0] with
      | true =>
        (simp (disch := first | decide | omega | (simp only [nx]; first | done | omega)) only [go_sem, Nat.reduceMul]; (repeat (with_reducible refine And.intro (by first | omega | assumption | rfl) ?_)))
        refine ⟨?_, (by (repeat' first | assumption | exact St.Sub.refl _ | exact RowOk.sub (by assumption) (by assumption) | refine St.Sub.trans ?_ (RowOk.sub (by assumption) (by assumption)) | refine St.Sub.add ?_ ?_ _ | refine St.Sub.set ?_ ?_ ?_ _ | refine St.Sub.keep ?_ ?_ | refine St.WF.leave ?_ _ | refine St.WF.add ?_ _ | refine St.WF.set ?_ ?_ _ | refine St.WF.grow ?_ _ _ _ | refine St.WF.keep ?_ ?_ | (first | omega | (simp only [RowOk.lo, nx]; first | done | omega))))⟩
        rw [hc, hf, hft]; rfl
      | false =>
        (simp (disch := first | decide | omega | (simp only [nx]; first | done | omega)) only [go_sem, Nat.reduceMul]; (repeat (with_reducible refine And.intro (by first | omega | assumption | rfl) ?_)))
        refine ⟨?_, (by (repeat' first | assumption | exact St.Sub.refl _ | exact RowOk.sub (by assumption) (by assumption) | refine St.Sub.trans ?_ (RowOk.sub (by assumption) (by assumption)) | refine St.Sub.add ?_ ?_ _ | refine St.Sub.set ?_ ?_ ?_ _ | refine St.Sub.keep ?_ ?_ | refine St.WF.leave ?_ _ | refine St.WF.add ?_ _ | refine St.WF.set ?_ ?_ _ | refine St.WF.grow ?_ _ _ _ | refine St.WF.keep ?_ ?_ | (first | omega | (simp only [RowOk.lo, nx]; first | done | omega))))⟩
        rw [hc, hf, hft]; rfl
    · have c2 : (o.kind == 2) = false := by simp [k2]
      (simp (disch := first | decide | omega | (simp only [nx]; first | done | omega)) only [go_sem, Nat.reduceMul, tupS, Option.getD_some, Option.isSome_some, c1, c2, g1, c6]; (repeat (with_reducible refine And.intro (by first | omega | assumption | rfl) ?_)))
      refine ddraw_mk 39 (by kernel_rfl) ?_
      (simp (disch := first | decide | omega | (simp only [nx]; first | done | omega)) only [go_sem, Nat.reduceMul, opCs, c1, c2, g1, c6]; (repeat (with_reducible refine And.intro (by first | omega | assumption | rfl) ?_)))
      refine ⟨?_, (by (repeat' first | assumption | exact St.Sub.refl _ | exact RowOk.sub (by assumption) (by assumption) | refine St.Sub.trans ?_ (RowOk.sub (by assumption) (by assumption)) | refine St.Sub.add ?_ ?_ _ | refine St.Sub.set ?_ ?_ ?_ _ | refine St.Sub.keep ?_ ?_ | refine St.WF.leave ?_ _ | refine St.WF.add ?_ _ | refine St.WF.set ?_ ?_ _ | refine St.WF.grow ?_ _ _ _ | refine St.WF.keep ?_ ?_ | (first | omega | (simp only [RowOk.lo, nx]; first | done | omega))))⟩
      have hf : fitO o t = true := by rw [fitO, if_neg k1, if_pos t6, if_neg k2]
      rw [hc, hf]; rfl
  · have c6 : (t.kind != 6) = true := by simp [t6]
    (simp (disch := first | decide | omega | (simp only [nx]; first | done | omega)) only [go_sem, Nat.reduceMul, tupS, Option.getD_some, Option.isSome_some, c1, c6, g1]; (repeat (with_reducible refine And.intro (by first | omega | assumption | rfl) ?_)))
    refine ddraw_mk 39 (by kernel_rfl) ?_
    (simp (disch := first | decide | omega | (simp only [nx]; first | done | omega)) only [go_sem, Nat.reduceMul, opCs, c1, c6, g1]; (repeat (with_reducible refine And.intro (by first | omega | assumption | rfl) ?_)))
    refine ⟨?_, (by (repeat' first | assumption | exact St.Sub.refl _ | exact RowOk.sub (by assumption) (by assumption) | refine St.Sub.trans ?_ (RowOk.sub (by assumption) (by assumption)) | refine St.Sub.add ?_ ?_ _ | refine St.Sub.set ?_ ?_ ?_ _ | refine St.Sub.keep ?_ ?_ | refine St.WF.leave ?_ _ | refine St.WF.add ?_ _ | refine St.WF.set ?_ ?_ _ | refine St.WF.grow ?_ _ _ _ | refine St.WF.keep ?_ ?_ | (first | omega | (simp only [RowOk.lo, nx]; first | done | omega))))⟩
    have hf : fitO o t = false := by rw [fitO, if_neg k1, if_neg t6]
    rw [hc, hf]; rfl
end Go.Proofs.YtjjhjhjphhpeiaaGreatDoor

namespace Go.Proofs.YtjjhjhjphhpeiaaGreatDoor
open Go.RowKit
set_option linter.unusedSimpArgs false
set_option linter.unusedVariables false
theorem filter_one {β : Type} (f : β → Nat) (L : List β) {k x : Nat} (hk : k < L.length) (h : f L[k] = x) (hn : ∀ b ∈ L.take k ++ L.drop (k + 1), f b ≠ x) : L.filter (fun b => f b != x) = L.take k ++ L.drop (k + 1) := by
  have e : L = L.take k ++ L[k] :: L.drop (k + 1) := by rw [← List.drop_eq_getElem_cons hk, List.take_append_drop]
  have h1 : (L.take k).filter (fun b => f b != x) = L.take k := List.filter_eq_self.2 fun b hb => by simpa using hn b (List.mem_append_left _ hb)
  have h2 : (L.drop (k + 1)).filter (fun b => f b != x) = L.drop (k + 1) := List.filter_eq_self.2 fun b hb => by simpa using hn b (List.mem_append_right _ hb)
  have h3 : ¬ (fun b => f b != x) L[k] = true := by simp [h]
  conv => lhs; rw [e]
  rw [List.filter_append, List.filter_cons_of_neg (p := fun b => f b != x) h3, h1, h2]
theorem zip_fst_mem {l : List Nat} {p : List DVal} {b : Nat × DVal} (h : b ∈ l.zip p) : b.1 ∈ l := by
  obtain ⟨a, c⟩ := b
  exact (List.of_mem_zip h).1
theorem woI_all {v : DVal} {id : Nat} (h : id ∉ v.ids) : woI v id v.ids.length = v.ids := by
  rw [woI, List.take_length]
  exact List.filter_eq_self.2 fun b hb => by
    have : b ≠ id := fun e => h (e ▸ hb)
    simpa using this
theorem woP_all {v : DVal} {id : Nat} (h : id ∉ v.ids) (hl : v.parts.length = v.ids.length) : woP v id v.ids.length = v.parts := by
  have e : (v.ids.zip v.parts).take v.ids.length = v.ids.zip v.parts := List.take_of_length_le (by rw [List.length_zip]; omega)
  have e2 : (v.ids.zip v.parts).filter (fun a => a.1 != id) = v.ids.zip v.parts := List.filter_eq_self.2 fun b hb => by
    have : b.1 ≠ id := fun e => h (e ▸ zip_fst_mem hb)
    simpa using this
  rw [woP, e, e2]
  exact List.map_snd_zip (by omega)
theorem woI_one {v : DVal} {id : Nat} (h : id ∈ v.ids) (hn : v.ids.Nodup) : woI v id v.ids.length = v.ids.take (ixN v.ids id) ++ v.ids.drop (ixN v.ids id + 1) := by
  have hk := ix_lt h
  have hx : v.ids[ixN v.ids id] = id := List.getElem_idxOf (x := id) (xs := v.ids) hk
  have hnm := notMem_del hn hk
  rw [hx] at hnm
  rw [woI, List.take_length]
  exact filter_one (fun a => a) v.ids hk hx fun b hb e => hnm (by simpa [e] using hb)
theorem woP_one {v : DVal} {id : Nat} (h : id ∈ v.ids) (hn : v.ids.Nodup) (hl : v.parts.length = v.ids.length) : woP v id v.ids.length = v.parts.take (ixN v.ids id) ++ v.parts.drop (ixN v.ids id + 1) := by
  have hk := ix_lt h
  have hx : v.ids[ixN v.ids id] = id := List.getElem_idxOf (x := id) (xs := v.ids) hk
  have hnm := notMem_del hn hk
  rw [hx] at hnm
  have e : (v.ids.zip v.parts).take v.ids.length = v.ids.zip v.parts := List.take_of_length_le (by rw [List.length_zip]; omega)
  have hk2 : ixN v.ids id < (v.ids.zip v.parts).length := by rw [List.length_zip]; omega
  have h4 : (v.ids.zip v.parts)[ixN v.ids id].1 = id := by rw [List.getElem_zip]; exact hx
  have tz : ∀ k, (v.ids.zip v.parts).take k = (v.ids.take k).zip (v.parts.take k) := fun k => List.take_zipWith
  have dz : ∀ k, (v.ids.zip v.parts).drop k = (v.ids.drop k).zip (v.parts.drop k) := fun k => List.drop_zipWith
  rw [woP, e, filter_one (fun a : Nat × DVal => a.1) _ hk2 h4 fun b hb e => ?_]
  · rw [List.map_append, tz, dz, List.map_snd_zip (by rw [List.length_take, List.length_take]; omega), List.map_snd_zip (by rw [List.length_drop, List.length_drop]; omega)]
  · rcases List.mem_append.1 hb with hb | hb
    · rw [tz] at hb
      have hm := zip_fst_mem hb
      have e' : b.1 = id := e
      rw [e'] at hm
      exact hnm (List.mem_append_left _ hm)
    · rw [dz] at hb
      have hm := zip_fst_mem hb
      have e' : b.1 = id := e
      rw [e'] at hm
      exact hnm (List.mem_append_right _ hm)
theorem GV.shape {v : DVal} {t : DSch} (h : GV v t) (h6 : t.kind = 6) (is : List Nat) (ps : List DVal) : v.ofList is ps = listV is ps := by
  obtain ⟨b1, b2, b3, b4⟩ := here_parts h.here_
  have hg := h.list h6
  have hk := hg.kind
  unfold bad1 at b1
  unfold bad2 at b2
  have hn0 : v.n = 0 := by omega
  have hs0 : v.s = [] := List.eq_nil_of_length_eq_zero (by omega)
  unfold DVal.ofList listV
  rw [hk, hn0, hs0, hg.names]
theorem ofList_self (v : DVal) : v.ofList v.ids v.parts = v := by cases v; rfl
/-- The document's Apply. -/
noncomputable def apR (s : DSch) (v : DVal) (o : DOp) : DVal := if chkO o s = 0 ∧ fitsTop v s = true then apV o v else v
set_option maxRecDepth 200000 in
set_option maxHeartbeats 16000000 in
theorem refApply_d (o : DOp) (s : DSch) (v : DVal) (h : OkO o) (hs : okS s) (hsw : s.weight ≤ 1000) (hok : okV v) (hw : v.weight ≤ 1000000) : DPure Tryz.prog 14 [encS s, encV v, encO o] (encV (apR s v o)) := by
  have hpl := h.path
  have hwt := h.wt
  have hvd := DVal.depth_weight v.depth v (Nat.le_refl _)
  have hsd := DSch.depth_weight s.depth s (Nat.le_refl _)
  refine dpure_of_dwp mixed Tryz.func14 rfl (fun _ _ => by kernel_rfl) (rs := [.cell 6 29]) rfl (by kernel_rfl) (closed_encV _) (fun S hS => ?_)
  (simp (disch := first | decide | omega | (simp only [nx]; first | done | omega)) only [go_sem, Nat.reduceMul, opCs]; (repeat (with_reducible refine And.intro (by first | omega | assumption | rfl) ?_)))
  refine DCalls.of_pure (refGet_d v o.path .no hok hw (by omega)) ?_
  (simp (disch := first | decide | omega | (simp only [nx]; first | done | omega)) only [go_sem, Nat.reduceMul, getD_]; (repeat (with_reducible refine And.intro (by first | omega | assumption | rfl) ?_)))
  refine DCalls.of_pure (refCheck_d o s h hs hsw) ?_
  by_cases hc : chkO o s = 0
  · have b1 : (((chkO o s : Nat) : Int) != 0) = false := by simp [hc]
    (simp (disch := first | decide | omega | (simp only [nx]; first | done | omega)) only [go_sem, Nat.reduceMul, b1]; (repeat (with_reducible refine And.intro (by first | omega | assumption | rfl) ?_)))
    refine DCalls.of_pure (refFitsTop_d v s hok hs (by omega) (by omega)) ?_
    cases hf : fitsTop v s with
    | false =>
      (simp (disch := first | decide | omega | (simp only [nx]; first | done | omega)) only [go_sem, Nat.reduceMul]; (repeat (with_reducible refine And.intro (by first | omega | assumption | rfl) ?_)))
      refine ⟨?_, (by (repeat' first | assumption | exact St.Sub.refl _ | exact RowOk.sub (by assumption) (by assumption) | refine St.Sub.trans ?_ (RowOk.sub (by assumption) (by assumption)) | refine St.Sub.add ?_ ?_ _ | refine St.Sub.set ?_ ?_ ?_ _ | refine St.Sub.keep ?_ ?_ | refine St.WF.leave ?_ _ | refine St.WF.add ?_ _ | refine St.WF.set ?_ ?_ _ | refine St.WF.grow ?_ _ _ _ | refine St.WF.keep ?_ ?_ | (first | omega | (simp only [RowOk.lo, nx]; first | done | omega))))⟩
      rw [apR, if_neg (by rw [hf]; simp)]
      simp only [frz_encV]
    | true =>
    cases hg : getV o.path v with
    | none =>
      (simp (disch := first | decide | omega | (simp only [nx]; first | done | omega)) only [go_sem, Nat.reduceMul, Option.getD_none, Option.isSome_none]; (repeat (with_reducible refine And.intro (by first | omega | assumption | rfl) ?_)))
      refine ⟨?_, (by (repeat' first | assumption | exact St.Sub.refl _ | exact RowOk.sub (by assumption) (by assumption) | refine St.Sub.trans ?_ (RowOk.sub (by assumption) (by assumption)) | refine St.Sub.add ?_ ?_ _ | refine St.Sub.set ?_ ?_ ?_ _ | refine St.Sub.keep ?_ ?_ | refine St.WF.leave ?_ _ | refine St.WF.add ?_ _ | refine St.WF.set ?_ ?_ _ | refine St.WF.grow ?_ _ _ _ | refine St.WF.keep ?_ ?_ | (first | omega | (simp only [RowOk.lo, nx]; first | done | omega))))⟩
      rw [apR, if_pos ⟨hc, hf⟩, apV, hg]
      simp only [frz_encV]
    | some x =>
      have hap : apR s v o = chV (fun _ => mdV o x) o.path v := by rw [apR, if_pos ⟨hc, hf⟩, apV, hg]
      rw [hap]
      have hxw := getV_wt _ hg
      (simp (disch := first | decide | omega | (simp only [nx]; first | done | omega)) only [go_sem, Nat.reduceMul, Option.getD_some, Option.isSome_some]; (repeat (with_reducible refine And.intro (by first | omega | assumption | rfl) ?_)))
      refine DCalls.of_pure (refElem_d x o.id (by omega)) ?_
      obtain ⟨hr, hrs, t, ht, hfo⟩ := chkO_zero hc
      obtain ⟨hS', _⟩ := RS.of_top hrs
      obtain ⟨_, hGv⟩ := fitsTop_iff.1 hf
      obtain ⟨g1, g2, _⟩ := GV.get o.path hGv hS' ht hg
      have hkr : 1 ≤ o.kind ∧ o.kind ≤ 4 := by
        by_cases hh : o.kind < 1 ∨ 4 < o.kind
        · rw [rightO_kind hh] at hr; cases hr
        · omega
      by_cases k1 : o.kind = 1
      · have c1 : (o.kind == 1) = true := by simp [k1]
        have hm : mdV o x = o.val := by rw [mdV, if_pos k1]
        rw [hm]
        (simp (disch := first | decide | omega | (simp only [nx]; first | done | omega)) only [go_sem, Nat.reduceMul, c1, opCs]; (repeat (with_reducible refine And.intro (by first | omega | assumption | rfl) ?_)))
        refine DCalls.of_pure (refPut_d o.val o.path .no v hok hw (by omega)) ?_
        (simp (disch := first | decide | omega | (simp only [nx]; first | done | omega)) only [go_sem, Nat.reduceMul]; (repeat (with_reducible refine And.intro (by first | omega | assumption | rfl) ?_)))
        refine ⟨?_, (by (repeat' first | assumption | exact St.Sub.refl _ | exact RowOk.sub (by assumption) (by assumption) | refine St.Sub.trans ?_ (RowOk.sub (by assumption) (by assumption)) | refine St.Sub.add ?_ ?_ _ | refine St.Sub.set ?_ ?_ ?_ _ | refine St.Sub.keep ?_ ?_ | refine St.WF.leave ?_ _ | refine St.WF.add ?_ _ | refine St.WF.set ?_ ?_ _ | refine St.WF.grow ?_ _ _ _ | refine St.WF.keep ?_ ?_ | (first | omega | (simp only [RowOk.lo, nx]; first | done | omega))))⟩
        simp only [frz_encV]
      have c1 : (o.kind == 1) = false := by simp [k1]
      have hm : mdV o x = lsV o x := by rw [mdV, if_neg k1]
      have t6 := (fitO_made hr hfo g1 g2).2 k1
      have hl := g1.list t6
      have hsh := g1.shape t6
      have hxs := ofList_self x
      have hek : elemI x o.id = if o.id ∈ x.ids then ((ixN x.ids o.id : Nat) : Int) else -1 := by rw [elemI, if_pos hl.kind, ixI]
      have hlen := hl.len
      have hmost := hl.most
      rw [hm]
      by_cases k2 : o.kind = 2
      · have c2 : (o.kind == 2) = true := by simp [k2]
        by_cases hc2 : o.id ∉ x.ids ∧ x.ids.length < 12
        · have e1 : elemI x o.id = -1 := by rw [hek, if_neg hc2.1]
          have d1 : decide ((x.ids.length : Int) < 12) = true := by have := hc2.2; simp; omega
          have hls : lsV o x = listV (x.ids.take (plK x o.after) ++ [o.id] ++ x.ids.drop (plK x o.after)) (x.parts.take (plK x o.after) ++ [o.val] ++ x.parts.drop (plK x o.after)) := by rw [lsV, if_pos k2, if_pos hc2, plV, hsh]
          rw [hls]
          have dm : decide ((-1 : Int) < 0) = true := by decide
          (simp (disch := first | decide | omega | (simp only [nx]; first | done | omega)) only [go_sem, Nat.reduceMul, c1, c2, opCs, e1, d1, dm]; (repeat (with_reducible refine And.intro (by first | omega | assumption | rfl) ?_)))
          refine DCalls.of_pure (refIn_d x o.val o.id o.after hlen (by omega) hl.nodup) ?_
          (simp (disch := first | decide | omega | (simp only [nx]; first | done | omega)) only [go_sem, Nat.reduceMul]; (repeat (with_reducible refine And.intro (by first | omega | assumption | rfl) ?_)))
          refine DCalls.of_pure (refPut_d _ o.path .no v hok hw (by omega)) ?_
          (simp (disch := first | decide | omega | (simp only [nx]; first | done | omega)) only [go_sem, Nat.reduceMul]; (repeat (with_reducible refine And.intro (by first | omega | assumption | rfl) ?_)))
          refine ⟨?_, (by (repeat' first | assumption | exact St.Sub.refl _ | exact RowOk.sub (by assumption) (by assumption) | refine St.Sub.trans ?_ (RowOk.sub (by assumption) (by assumption)) | refine St.Sub.add ?_ ?_ _ | refine St.Sub.set ?_ ?_ ?_ _ | refine St.Sub.keep ?_ ?_ | refine St.WF.leave ?_ _ | refine St.WF.add ?_ _ | refine St.WF.set ?_ ?_ _ | refine St.WF.grow ?_ _ _ _ | refine St.WF.keep ?_ ?_ | (first | omega | (simp only [RowOk.lo, nx]; first | done | omega))))⟩
          simp only [frz_encV]
        · have hls : lsV o x = x := by rw [lsV, if_pos k2, if_neg hc2]
          rw [hls]
          have d1 : (decide (elemI x o.id < 0) = false) ∨ (decide (elemI x o.id < 0) = true ∧ decide ((x.ids.length : Int) < 12) = false) := by
            rw [hek]
            by_cases hmm : o.id ∈ x.ids
            · rw [if_pos hmm]; left; simp
            · right
              rw [if_neg hmm]
              refine ⟨by simp, ?_⟩
              have : ¬ x.ids.length < 12 := fun hh => hc2 ⟨hmm, hh⟩
              simp; omega
          rcases d1 with d1 | ⟨d1, d2⟩
          · (simp (disch := first | decide | omega | (simp only [nx]; first | done | omega)) only [go_sem, Nat.reduceMul, c1, c2, opCs, d1]; (repeat (with_reducible refine And.intro (by first | omega | assumption | rfl) ?_)))
            refine DCalls.of_pure (refPut_d x o.path .no v hok hw (by omega)) ?_
            (simp (disch := first | decide | omega | (simp only [nx]; first | done | omega)) only [go_sem, Nat.reduceMul]; (repeat (with_reducible refine And.intro (by first | omega | assumption | rfl) ?_)))
            refine ⟨?_, (by (repeat' first | assumption | exact St.Sub.refl _ | exact RowOk.sub (by assumption) (by assumption) | refine St.Sub.trans ?_ (RowOk.sub (by assumption) (by assumption)) | refine St.Sub.add ?_ ?_ _ | refine St.Sub.set ?_ ?_ ?_ _ | refine St.Sub.keep ?_ ?_ | refine St.WF.leave ?_ _ | refine St.WF.add ?_ _ | refine St.WF.set ?_ ?_ _ | refine St.WF.grow ?_ _ _ _ | refine St.WF.keep ?_ ?_ | (first | omega | (simp only [RowOk.lo, nx]; first | done | omega))))⟩
            simp only [frz_encV]
          · (simp (disch := first | decide | omega | (simp only [nx]; first | done | omega)) only [go_sem, Nat.reduceMul, c1, c2, opCs, d1, d2]; (repeat (with_reducible refine And.intro (by first | omega | assumption | rfl) ?_)))
            refine DCalls.of_pure (refPut_d x o.path .no v hok hw (by omega)) ?_
            (simp (disch := first | decide | omega | (simp only [nx]; first | done | omega)) only [go_sem, Nat.reduceMul]; (repeat (with_reducible refine And.intro (by first | omega | assumption | rfl) ?_)))
            refine ⟨?_, (by (repeat' first | assumption | exact St.Sub.refl _ | exact RowOk.sub (by assumption) (by assumption) | refine St.Sub.trans ?_ (RowOk.sub (by assumption) (by assumption)) | refine St.Sub.add ?_ ?_ _ | refine St.Sub.set ?_ ?_ ?_ _ | refine St.Sub.keep ?_ ?_ | refine St.WF.leave ?_ _ | refine St.WF.add ?_ _ | refine St.WF.set ?_ ?_ _ | refine St.WF.grow ?_ _ _ _ | refine St.WF.keep ?_ ?_ | (first | omega | (simp only [RowOk.lo, nx]; first | done | omega))))⟩
            simp only [frz_encV]
      have c2 : (o.kind == 2) = false := by simp [k2]
      by_cases k3 : o.kind = 3
      · have c3 : (o.kind == 3) = true := by simp [k3]
        have hls : lsV o x = listV (woI x o.id x.ids.length) (woP x o.id x.ids.length) := by
          rw [lsV, if_neg k2]
          by_cases hmm : o.id ∈ x.ids
          · rw [if_neg (by simpa using hmm), if_neg (by omega), woI_one hmm hl.nodup, woP_one hmm hl.nodup hlen, tkV, hsh]; rfl
          · rw [if_pos hmm, woI_all hmm, woP_all hmm hlen, ← hsh, hxs]
        rw [hls]
        (simp (disch := first | decide | omega | (simp only [nx]; first | done | omega)) only [go_sem, Nat.reduceMul, c1, c2, c3, opCs]; (repeat (with_reducible refine And.intro (by first | omega | assumption | rfl) ?_)))
        refine DCalls.of_pure (refWithout_d x o.id hlen (by omega)) ?_
        (simp (disch := first | decide | omega | (simp only [nx]; first | done | omega)) only [go_sem, Nat.reduceMul]; (repeat (with_reducible refine And.intro (by first | omega | assumption | rfl) ?_)))
        refine DCalls.of_pure (refPut_d _ o.path .no v hok hw (by omega)) ?_
        (simp (disch := first | decide | omega | (simp only [nx]; first | done | omega)) only [go_sem, Nat.reduceMul]; (repeat (with_reducible refine And.intro (by first | omega | assumption | rfl) ?_)))
        refine ⟨?_, (by (repeat' first | assumption | exact St.Sub.refl _ | exact RowOk.sub (by assumption) (by assumption) | refine St.Sub.trans ?_ (RowOk.sub (by assumption) (by assumption)) | refine St.Sub.add ?_ ?_ _ | refine St.Sub.set ?_ ?_ ?_ _ | refine St.Sub.keep ?_ ?_ | refine St.WF.leave ?_ _ | refine St.WF.add ?_ _ | refine St.WF.set ?_ ?_ _ | refine St.WF.grow ?_ _ _ _ | refine St.WF.keep ?_ ?_ | (first | omega | (simp only [RowOk.lo, nx]; first | done | omega))))⟩
        simp only [frz_encV]
      have c3 : (o.kind == 3) = false := by simp [k3]
      have k4 : o.kind = 4 := by omega
      have c4 : (o.kind == 4) = true := by simp [k4]
      by_cases hmm : o.id ∈ x.ids
      · have e1 : elemI x o.id = ((ixN x.ids o.id : Nat) : Int) := by rw [hek, if_pos hmm]
        have hk := ix_lt hmm
        have hkp : ixN x.ids o.id < x.parts.length := by omega
        have gp := getD_map encV x.parts _ hkp
        have d1 : decide (0 ≤ ((ixN x.ids o.id : Nat) : Int)) = true := by simp
        have hw1 := woI_one hmm hl.nodup
        have hw2 := woP_one hmm hl.nodup hlen
        have hls : lsV o x = plV (listV (woI x o.id x.ids.length) (woP x o.id x.ids.length)) o.id o.after x.parts[ixN x.ids o.id] := by
          rw [lsV, if_neg k2, if_neg (by simpa using hmm), if_pos k4, hw1, hw2, tkV, hsh, elK, getD_at hkp]
        have hln : (listV (woI x o.id x.ids.length) (woP x o.id x.ids.length)).parts.length = (listV (woI x o.id x.ids.length) (woP x o.id x.ids.length)).ids.length := by
          show (woP x o.id x.ids.length).length = (woI x o.id x.ids.length).length
          rw [hw1, hw2, del_len _ hk, del_len _ hkp, hlen]
        have hln2 : (listV (woI x o.id x.ids.length) (woP x o.id x.ids.length)).ids.length ≤ 1000 := by
          show (woI x o.id x.ids.length).length ≤ 1000
          have := woI_len x o.id x.ids.length
          omega
        have hnd : (listV (woI x o.id x.ids.length) (woP x o.id x.ids.length)).ids.Nodup := by
          show (woI x o.id x.ids.length).Nodup
          rw [hw1]
          exact (sub_del _ _).nodup hl.nodup
        rw [hls]
        (simp (disch := first | decide | omega | (simp only [nx]; first | done | omega)) only [go_sem, Nat.reduceMul, c1, c2, c3, c4, opCs, e1, d1]; (repeat (with_reducible refine And.intro (by first | omega | assumption | rfl) ?_)))
        refine ddraw_mk 14 (by kernel_rfl) ?_
        (simp (disch := first | decide | omega | (simp only [nx]; first | done | omega)) only [go_sem, Nat.reduceMul, opCs, gp]; (repeat (with_reducible refine And.intro (by first | omega | assumption | rfl) ?_)))
        refine dqgo_mk (refWithout_d x o.id hlen (by omega)) ?_
        (simp (disch := first | decide | omega | (simp only [nx]; first | done | omega)) only [go_sem, Nat.reduceMul, opCs, gp]; (repeat (with_reducible refine And.intro (by first | omega | assumption | rfl) ?_)))
        refine dqgo_mk (refIn_d _ x.parts[ixN x.ids o.id] o.id o.after hln hln2 hnd) ?_
        (simp (disch := first | decide | omega | (simp only [nx]; first | done | omega)) only [go_sem, Nat.reduceMul]; (repeat (with_reducible refine And.intro (by first | omega | assumption | rfl) ?_)))
        refine DCalls.of_pure (refPut_d _ o.path .no v hok hw (by omega)) ?_
        (simp (disch := first | decide | omega | (simp only [nx]; first | done | omega)) only [go_sem, Nat.reduceMul]; (repeat (with_reducible refine And.intro (by first | omega | assumption | rfl) ?_)))
        refine ⟨?_, (by (repeat' first | assumption | exact St.Sub.refl _ | exact RowOk.sub (by assumption) (by assumption) | refine St.Sub.trans ?_ (RowOk.sub (by assumption) (by assumption)) | refine St.Sub.add ?_ ?_ _ | refine St.Sub.set ?_ ?_ ?_ _ | refine St.Sub.keep ?_ ?_ | refine St.WF.leave ?_ _ | refine St.WF.add ?_ _ | refine St.WF.set ?_ ?_ _ | refine St.WF.grow ?_ _ _ _ | refine St.WF.keep ?_ ?_ | (first | omega | (simp only [RowOk.lo, nx]; first | done | omega))))⟩
        simp only [frz_encV]
        rfl
      · have e1 : elemI x o.id = -1 := by rw [hek, if_neg hmm]
        have hls : lsV o x = x := by rw [lsV, if_neg k2, if_pos hmm]
        rw [hls]
        have dm : decide ((0 : Int) ≤ -1) = false := by decide
        (simp (disch := first | decide | omega | (simp only [nx]; first | done | omega)) only [go_sem, Nat.reduceMul, c1, c2, c3, c4, opCs, e1, dm]; (repeat (with_reducible refine And.intro (by first | omega | assumption | rfl) ?_)))
        refine DCalls.of_pure (refPut_d x o.path .no v hok hw (by omega)) ?_
        (simp (disch := first | decide | omega | (simp only [nx]; first | done | omega)) only [go_sem, Nat.reduceMul]; (repeat (with_reducible refine And.intro (by first | omega | assumption | rfl) ?_)))
        refine ⟨?_, (by (repeat' first | assumption | exact St.Sub.refl _ | exact RowOk.sub (by assumption) (by assumption) | refine St.Sub.trans ?_ (RowOk.sub (by assumption) (by assumption)) | refine St.Sub.add ?_ ?_ _ | refine St.Sub.set ?_ ?_ ?_ _ | refine St.Sub.keep ?_ ?_ | refine St.WF.leave ?_ _ | refine St.WF.add ?_ _ | refine St.WF.set ?_ ?_ _ | refine St.WF.grow ?_ _ _ _ | refine St.WF.keep ?_ ?_ | (first | omega | (simp only [RowOk.lo, nx]; first | done | omega))))⟩
        simp only [frz_encV]
  · have b1 : (((chkO o s : Nat) : Int) != 0) = true := by simp [hc]
    (simp (disch := first | decide | omega | (simp only [nx]; first | done | omega)) only [go_sem, Nat.reduceMul, b1]; (repeat (with_reducible refine And.intro (by first | omega | assumption | rfl) ?_)))
    refine ⟨?_, (by (repeat' first | assumption | exact St.Sub.refl _ | exact RowOk.sub (by assumption) (by assumption) | refine St.Sub.trans ?_ (RowOk.sub (by assumption) (by assumption)) | refine St.Sub.add ?_ ?_ _ | refine St.Sub.set ?_ ?_ ?_ _ | refine St.Sub.keep ?_ ?_ | refine St.WF.leave ?_ _ | refine St.WF.add ?_ _ | refine St.WF.set ?_ ?_ _ | refine St.WF.grow ?_ _ _ _ | refine St.WF.keep ?_ ?_ | (first | omega | (simp only [RowOk.lo, nx]; first | done | omega))))⟩
    rw [apR, if_neg (fun h => hc h.1)]
    simp only [frz_encV]
end Go.Proofs.YtjjhjhjphhpeiaaGreatDoor

namespace Go.Proofs.YtjjhjhjphhpeiaaGreatDoor
open Go.RowKit
set_option linter.unusedSimpArgs false
set_option linter.unusedVariables false
theorem applyV_ok {s : DSch} {v : DVal} {l : List DOp} (hok : okV v) (ho : ∀ o ∈ l, OkO o) : okV (applyV s v l) := by
  unfold applyV
  split
  · rename_i h
    exact (fold_fits l (fitsTop_iff.1 h).2 hok ho).2
  · exact hok
end Go.Proofs.YtjjhjhjphhpeiaaGreatDoor

namespace Go.Proofs.YtjjhjhjphhpeiaaGreatDoor
open Go.RowKit
set_option linter.unusedSimpArgs false
set_option linter.unusedVariables false
theorem applyV_snoc {s : DSch} {v : DVal} {l : List DOp} {i : Nat} (hok : okV v) (hi : i < l.length) (ho : ∀ o ∈ l.take i, OkO o) : applyV s v (l.take (i + 1)) = apR s (applyV s v (l.take i)) l[i] := by
  unfold applyV
  by_cases hf : fitsTop v s = true
  · rw [if_pos hf, if_pos hf, List.take_succ_eq_append_getElem hi, List.foldl_append]
    have h1 := (fold_fits (l.take i) (fitsTop_iff.1 hf).2 hok ho).1
    have h2 : fitsTop ((l.take i).foldl (apS s) v) s = true := fitsTop_iff.2 ⟨(fitsTop_iff.1 hf).1, h1⟩
    show apS s _ l[i] = apR s _ l[i]
    unfold apS apR
    by_cases hc : chkO l[i] s = 0
    · rw [if_pos hc, if_pos ⟨hc, h2⟩]
    · rw [if_neg hc, if_neg (fun h => hc h.1)]
  · rw [if_neg hf, if_neg hf, apR, if_neg (fun h => hf h.2)]
theorem applyV_wt {s : DSch} {v : DVal} {l : List DOp} (hok : okV v) (hw : v.weight ≤ 1000000) (ho : ∀ o ∈ l, OkO o) : (applyV s v l).weight ≤ 1000000 := by
  unfold applyV
  split
  · rename_i hf
    have h1 := (fold_fits l (fitsTop_iff.1 hf).2 hok ho).1
    exact h1.wt (fitsTop_iff.1 hf).1
  · exact hw
theorem applyV_nil (s : DSch) (v : DVal) : applyV s v [] = v := by unfold applyV; split <;> rfl
noncomputable def wantV (s : DSch) (v : DVal) (l : List DOp) : Nat → DVal
  | 0 => v
  | i + 1 => applyV s v (l.take (i + 1))
theorem wantV_eq (s : DSch) (v : DVal) (l : List DOp) (i : Nat) : wantV s v l i = applyV s v (l.take i) := by
  cases i with
  | zero => rw [List.take_zero, applyV_nil]; rfl
  | succ i => rfl
end Go.Proofs.YtjjhjhjphhpeiaaGreatDoor
