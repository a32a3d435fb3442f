/- Texts of a proof, part 6. Conditions: none. -/
import Derived.Test.YtjjhjhjphhpeiaaS5
set_option linter.unusedVariables false
set_option linter.unusedSimpArgs false
namespace Go.Proofs.Ytjjhjhjphhpeiaa
open Go.RowKit
set_option linter.unusedSimpArgs false
set_option linter.unusedVariables false
/-- A slice that is made anew, and never written to again. -/
theorem dapp_anew {P : Program} {S : St} {t tx ty e : TypeId} (he : elT P t = some e) (hx : (elT P tx).isSome = true) (hz : zeroT P e = true) (hz2 : zeroOk P e = true) {o2 : Own} {es : List D} {K : D → St → Prop} (hS : S.WF) (hw : ∀ d ∈ es, d.width = szOf P e) (hb : es.length ≤ 140737488355328) (hby : es.length * bytesOf P e ≤ 140737488355328)
    (h : K (.sl .no es) ⟨S.next + 1, S.ob⟩) : dapp P S t tx ty (.sl .full []) (.sl o2 es) K := by
  refine dapp_nil he ?_
  refine DRun.thaw ?_
  refine dappend_fresh he hx hz hz2 (es2 := es) (srcOk_sl hw) rfl hb hby fun c' zs' h1 h2 => ?_
  have hzp := (zeroT_pos hz).1
  refine ⟨_, _, thaw_own (k := S.next) (zs := zs') (c := c') (e := e) (es := es) (by simp [St.add]) h1 hzp hw rfl, ?_⟩
  have e1 : (D.win S.next 0 es.length c').thaw S.next es = .sl .no es := by simp [D.thaw]
  have e2 : (S.add (ownOb e es zs' c')).drop S.next = ⟨S.next + 1, S.ob⟩ := by
    unfold St.add St.drop
    congr 1
    funext j
    by_cases h : j = S.next
    · subst h; simp [hS _ (Nat.le_refl _)]
    · simp [h]
  rw [e1, e2]
  exact h
structure DOp where
  kind : Int
  path : List DStp
  id : Nat
  after : Nat
  val : DVal
/-- An operation's cells; whose the path's slice is. -/
def opCs (own : Own) (o : DOp) : List D := .v (.int .i64 o.kind) :: .sl own (o.path.map encP) :: .v (.int .u64 (o.id : Int)) :: .v (.int .u64 (o.after : Int)) :: (encV o.val).cells
def encO (o : DOp) : D := .agg (opCs .no o)
theorem opCs_len (own : Own) (o : DOp) : (opCs own o).length = 10 := by simp [opCs, cells_encV]
theorem take_opCs (own : Own) (o : DOp) : (opCs own o).take 10 = opCs own o := List.take_of_length_le (by rw [opCs_len]; omega)
theorem drop_opCs (own : Own) (o : DOp) : (opCs own o).drop 10 = [] := List.drop_of_length_le (by rw [opCs_len]; omega)
theorem agg_opCs (o : DOp) : D.agg (opCs .no o) = encO o := rfl
attribute [go_sem] opCs_len take_opCs drop_opCs agg_opCs
theorem cells_encO (o : DOp) : (encO o).cells = opCs .no o := rfl
theorem okCell_encO (o : DOp) : (encO o).okCell = true := rfl
attribute [go_sem] cells_encO okCell_encO
theorem width_encO (o : DOp) : (encO o).width = 10 := opCs_len .no o
theorem closed_encO (o : DOp) : (encO o).closed := by
  simp only [encO, opCs, D.closed, D.all, allL, Own.all, true_and]
  refine ⟨allL_iff.2 fun d hd => ?_, encV_cells_closed o.val⟩
  obtain ⟨p, _, rfl⟩ := List.mem_map.1 hd
  simp [encP, D.all, allL, strD, u64D]
theorem frz_mapPk (l : List DStp) : frzL (l.map encP) = l.map encP := by simp [frzL_map, encP, D.frz, frzL, strD, u64D, Function.comp_def]
theorem frz_cellsV (v : DVal) : frzL (encV v).cells = (encV v).cells := by
  have h := frz_encV v
  rw [← agg_encV v, D.frz] at h
  rw [← agg_encV v] at h
  injection h
theorem frz_opCs (own : Own) (o : DOp) : frzL (opCs own o) = opCs .no o := by
  simp only [opCs, frzL, D.frz, frz_mapPk, frz_cellsV]
theorem frz_encO (o : DOp) : (encO o).frz = encO o := by simp only [encO, D.frz, frz_opCs]
theorem frz_mapO (l : List DOp) : frzL (l.map encO) = l.map encO := by
  rw [frzL_map, List.map_map]
  exact List.map_congr_left fun o _ => frz_encO o
theorem wOs (l : List DOp) : ∀ d ∈ l.map encO, d.width = szOf Try.prog 53 := fun d hd => by
  obtain ⟨o, _, rfl⟩ := List.mem_map.1 hd
  exact (width_encO o).trans (by kernel_rfl : 10 = szOf Try.prog 53)
theorem wPs (l : List DStp) : ∀ d ∈ l.map encP, d.width = szOf Try.prog 78 := fun d hd => by
  obtain ⟨o, _, rfl⟩ := List.mem_map.1 hd
  exact (rfl : (encP o).width = 2).trans (by kernel_rfl : 2 = szOf Try.prog 78)
theorem keep_add {S : St} (hS : S.WF) (o : Ob) : ∀ j o', S.ob j = some o' → (S.add o).ob j = some o' := fun j o' e => by
  have := hS.lt e
  rw [add_ob, if_neg (by omega), e]
/-- In T the maker k holds these operations. -/
def MAt (k : Nat) (l : List DOp) (T : St) : Prop := ∃ own, T.ob k = some (.box 87 [.sl own (l.map encO)]) ∧ ((own = .full ∧ l = []) ∨ ∃ g, own = .row g ∧ k < g ∧ T.ob g = some (.row 53 l.length))
/-- Variables but k stay as they are. -/
structure MFr (k : Nat) (S T : St) : Prop where
  next : S.next ≤ T.next
  ob : ∀ j o, (j < k ∨ (j ≠ k ∧ ∃ t cs, o = .box t cs)) → S.ob j = some o → T.ob j = some o
theorem MFr.of_keep {k : Nat} {S T : St} (hn : S.next ≤ T.next) (h : ∀ j o, S.ob j = some o → T.ob j = some o) : MFr k S T := ⟨hn, fun j o _ e => h j o e⟩
theorem MFr.trans {k : Nat} {A B C : St} (h : MFr k A B) (g : MFr k B C) : MFr k A C := ⟨Nat.le_trans h.next g.next, fun j o hj e => g.ob j o hj (h.ob j o hj e)⟩
theorem MAt.keep {k : Nat} {l : List DOp} {S T : St} (h : MAt k l S) (hb : ∀ j o, S.ob j = some o → T.ob j = some o) : MAt k l T := by
  obtain ⟨own, h1, h2⟩ := h
  refine ⟨own, hb _ _ h1, ?_⟩
  rcases h2 with h2 | ⟨g, h2, h3, h4⟩
  · exact .inl h2
  · exact .inr ⟨g, h2, h3, hb _ _ h4⟩
theorem dapp_ops {S : St} {ty : TypeId} {own own2 : Own} {l : List DOp} {o : DOp} {K : D → St → Prop} (h : (own = .full ∧ l = []) ∨ ∃ g, own = .row g ∧ S.ob g = some (.row 53 l.length)) (hl : l.length ≤ 1000000)
    (k : K (.sl (.row S.next) ((l ++ [o]).map encO)) (S.grow own 53 (l.length + 1))) : dapp Try.prog S 48 48 ty (.sl own (l.map encO)) (.sl own2 [encO o]) K := by
  refine dapp_row ?_
  have he : elT Try.prog 48 = some 53 := by kernel_rfl
  have hb : bytesOf Try.prog 53 = 152 := by kernel_rfl
  have hz : zeroT Try.prog 53 = true := by kernel_rfl
  simp only [dappend, he, hz, hb, List.length_map, true_and, Option.isSome_some, List.length_cons, List.length_nil]
  refine ⟨wOs l, fun d hd => wOs [o] d (by simpa using hd), ?_, by omega, by omega, ?_⟩
  · rcases h with ⟨rfl, rfl⟩ | ⟨g, rfl, h⟩
    · trivial
    · exact h
  · rw [List.map_append] at k
    exact k
set_option maxRecDepth 200000 in
set_option maxHeartbeats 4000000 in
theorem add_w {S : St} {k : Nat} {l : List DOp} (own2 : Own) (o : DOp) (hk : k < S.next) (h : MAt k l S) (hl : l.length ≤ 1000000) (hp : o.path.length ≤ 1000000) : DCalls Try.prog 85 [.loc k 0, .agg (opCs own2 o)] S fun d T => d = undefD ∧ MAt k (l ++ [o]) T ∧ MFr k S T := by
  obtain ⟨own, h1, h2⟩ := h
  refine dcalls_inline mixed Try.func85 rfl (fun _ _ => by kernel_rfl) (rs := []) rfl (by kernel_rfl) (fun hS => ?_)
  have hk2 : (k = S.next) = False := by simp; omega
  (simp (disch := first | decide | omega | (simp only [nx]; first | done | omega)) only [go_sem, Nat.reduceMul, opCs]; (repeat (with_reducible refine And.intro (by first | omega | assumption | rfl) ?_)))
  have hST : (S.add (.box 53 (opCs own2 o))).WF := hS.add _
  refine dapp_anew (by kernel_rfl) (by kernel_rfl) (by kernel_rfl) (by kernel_rfl) hST (wPs _) (by rw [List.length_map]; omega) (by rw [show bytesOf Try.prog 78 = 24 by kernel_rfl, List.length_map]; omega) ?_
  (simp (disch := first | decide | omega | (simp only [nx]; first | done | omega)) only [go_sem, Nat.reduceMul]; (repeat (with_reducible refine And.intro (by first | omega | assumption | rfl) ?_)))
  generalize hT : St.set _ S.next _ = T
  have tk : T.ob k = some (.box 87 [.sl own (l.map encO)]) := by subst hT; (first | (simp (disch := first | decide | omega | (simp only [nx]; first | done | omega)) only [go_sem, Nat.reduceMul, h1, hk2]; first | done | rfl) | rfl)
  have t0 : T.ob S.next = some (.box 53 (opCs .no o)) := by subst hT; (first | (simp (disch := first | decide | omega | (simp only [nx]; first | done | omega)) only [go_sem, Nat.reduceMul, opCs]; first | done | rfl) | rfl)
  have tn : T.next = S.next + 2 := by subst hT; rfl
  have tb : ∀ j o', j ≠ k → S.ob j = some o' → T.ob j = some o' := fun j o' hj e => by
    have := hS.lt e
    subst hT
    show (if j = S.next then _ else (S.add _).ob j) = _
    rw [if_neg (by omega), add_ob, if_neg (by omega), e]
  have hTw : T.WF := by subst hT; exact St.WF.set (fun j hj => by show (S.add _).ob j = none; have hj' : S.next + 1 + 1 ≤ j := hj; rw [add_ob, if_neg (by omega)]; exact hS j (by omega)) (by show S.next < S.next + 1 + 1; omega) _
  clear hT
  have hk3 : k ≠ T.next := by omega
  have hk4 : S.next ≠ T.next := by omega
  refine ddraw_any (fun T' => T'.ob k = some (.box 87 [.sl own (l.map encO)]) ∧ T'.ob S.next = some (.box 53 (opCs .no o))) 8 (by (first | (simp (disch := first | decide | omega | (simp only [nx]; first | done | omega)) only [go_sem, Nat.reduceMul, tk, t0]; first | done | rfl) | rfl)) (by kernel_rfl) ?_
  (refine s_take 0 rfl (by kernel_rfl) (by kernel_rfl) (v := ?v1) (fun S' hz => dquietR_of ?h1) <| s_take 1 rfl (by kernel_rfl) (by kernel_rfl) (v := ?v2) (fun S' hz => dquietR_of ?h2) <| s_take 2 rfl (by kernel_rfl) (by kernel_rfl) (v := ?v3) (fun S' hz => dquietR_of ?h3) <| s_take 3 rfl (by kernel_rfl) (by kernel_rfl) (v := ?v4) (fun S' hz => dquietR_of ?h4) <| s_take 4 rfl (by kernel_rfl) (by kernel_rfl) (v := ?v5) (fun S' hz => dquietR_of ?h5) <| ?k5; (case h1 | h2 | h3 | h4 | h5 => ((simp (disch := first | decide | omega | (simp only [nx]; first | done | omega)) only [go_sem, Nat.reduceMul, hz]; (repeat (with_reducible refine And.intro (by first | omega | assumption | rfl) ?_))); first | done | exact rfl | omega)))
  (refine s_take 5 rfl (by kernel_rfl) (by kernel_rfl) (v := ?v6) (fun S' hz => dquietR_of ?h6) <| s_take 6 rfl (by kernel_rfl) (by kernel_rfl) (v := ?v7) (fun S' hz => dquietR_of ?h7) <| ?k7; (case h6 | h7 => ((simp (disch := first | decide | omega | (simp only [nx]; first | done | omega)) only [go_sem, Nat.reduceMul, hz]; (repeat (with_reducible refine And.intro (by first | omega | assumption | rfl) ?_))); first | done | exact rfl | omega)))
  (refine s_split [7] (by kernel_rfl) (by simp) ?_; intro j_ hj_; obtain rfl : j_ = 7 := (by simpa using hj_); clear hj_; refine s_op rfl ?_; (simp (disch := first | decide | omega | (simp only [nx]; first | done | omega)) only [go_sem, Nat.reduceMul]; (repeat (with_reducible refine And.intro (by first | omega | assumption | rfl) ?_))))
  rcases h2 with ⟨rfl, rfl⟩ | ⟨g, rfl, hg, h2⟩
  · refine dapp_ops (.inl ⟨rfl, rfl⟩) (by omega) ?_
    refine ⟨⟨by (first | (simp (disch := first | decide | omega | (simp only [nx]; first | done | omega)) only [go_sem, Nat.reduceMul, tk, hk3]; first | done | rfl) | rfl), by (first | (simp (disch := first | decide | omega | (simp only [nx]; first | done | omega)) only [go_sem, Nat.reduceMul, t0, hk4]; first | done | rfl) | rfl)⟩, ?_⟩
    (refine s_done (by kernel_rfl) ?_; (simp (disch := first | decide | omega | (simp only [nx]; first | done | omega)) only [go_sem, Nat.reduceMul, tk, t0, hk3, hk4]; (repeat (with_reducible refine And.intro (by first | omega | assumption | rfl) ?_))))
    refine ⟨⟨.row T.next, by simp [St.set], .inr ⟨T.next, rfl, by omega, ?_⟩⟩, ⟨by simp [St.set, St.grow, St.leave, St.add]; omega, fun j o' hj e => ?_⟩⟩
    · simp [St.grow, St.leave, St.add, St.set, Ne.symm hk3]
    · have hlt := hS.lt e
      have hj : j ≠ k := by rcases hj with h | h; omega; exact h.1
      have := tb j o' hj e
      simp [St.grow, St.leave, St.add, St.set, hj, show j ≠ T.next by omega, this]
  · have hkg : k ≠ g := by omega
    have hgn := hS.lt h2
    have tg := tb g _ (Ne.symm hkg) h2
    have hng : S.next ≠ g := by omega
    refine dapp_ops (.inr ⟨g, rfl, tg⟩) (by omega) ?_
    refine ⟨⟨by (first | (simp (disch := first | decide | omega | (simp only [nx]; first | done | omega)) only [go_sem, Nat.reduceMul, tk, hk3, hkg]; first | done | rfl) | rfl), by (first | (simp (disch := first | decide | omega | (simp only [nx]; first | done | omega)) only [go_sem, Nat.reduceMul, t0, hk4, hng]; first | done | rfl) | rfl)⟩, ?_⟩
    (refine s_done (by kernel_rfl) ?_; (simp (disch := first | decide | omega | (simp only [nx]; first | done | omega)) only [go_sem, Nat.reduceMul, tk, t0, hk3, hk4, hkg, hng]; (repeat (with_reducible refine And.intro (by first | omega | assumption | rfl) ?_))))
    refine ⟨⟨.row T.next, by simp [St.set], .inr ⟨T.next, rfl, by omega, ?_⟩⟩, ⟨by simp [St.set, St.grow, St.leave, St.add, St.drop]; omega, fun j o' hj e => ?_⟩⟩
    · simp [St.grow, St.leave, St.add, St.set, St.drop, Ne.symm hk3]
    · have hlt := hS.lt e
      have hjg : j ≠ g := fun e2 => by
        rcases hj with h | ⟨_, t, cs, rfl⟩
        · omega
        · rw [e2, h2] at e; cases e
      have hj : j ≠ k := by rcases hj with h | h; omega; exact h.1
      have := tb j o' hj e
      simp [St.grow, St.leave, St.add, St.set, St.drop, hj, hjg, show j ≠ T.next by omega, this]
end Go.Proofs.Ytjjhjhjphhpeiaa

namespace Go.Proofs.Ytjjhjhjphhpeiaa
open Go.RowKit
set_option linter.unusedSimpArgs false
def stepV (v : DVal) (i : Nat) : DStp := if v.kind = 5 then (v.names.getD i [], 0) else ([], v.ids.getD i 0)
/-- All paths into a value: the document's. -/
def pathsV : Nat → DVal → List (List DStp)
  | 0, _ => [[]]
  | k + 1, v => [] :: (List.range v.parts.length).flatMap fun i => (pathsV k (v.parts.getD i default)).map (stepV v i :: ·)
def restV (k : Nat) (v : DVal) (i : Nat) : List (List DStp) := (List.range i).flatMap fun i => (pathsV k (v.parts.getD i default)).map (stepV v i :: ·)
theorem pathsV_succ (k : Nat) (v : DVal) : pathsV (k + 1) v = [] :: restV k v v.parts.length := rfl
theorem restV_succ (k : Nat) (v : DVal) (i : Nat) : restV k v (i + 1) = restV k v i ++ (pathsV k (v.parts.getD i default)).map (stepV v i :: ·) := by
  simp only [restV, List.range_succ, List.flatMap_append, List.flatMap_cons, List.flatMap_nil, List.append_nil]
theorem weights_take (l : List DVal) : ∀ i, i < l.length → DVal.weights (l.take (i + 1)) = DVal.weights (l.take i) + (l.getD i default).weight := by
  induction l with
  | nil => intro i h; simp at h
  | cons p l ih =>
    intro i h
    cases i with
    | zero => simp [DVal.weights]
    | succ i =>
      simp only [List.take_succ_cons, DVal.weights, List.getD_cons_succ]
      rw [ih i (by simpa using h)]; omega
theorem weights_take_le (l : List DVal) : ∀ i, DVal.weights (l.take i) ≤ DVal.weights l := by
  induction l with
  | nil => intro i; simp [DVal.weights]
  | cons p l ih =>
    intro i
    cases i with
    | zero => simp [DVal.weights]
    | succ i => simp only [List.take_succ_cons, DVal.weights]; have := ih i; omega
theorem pathsV_len (k : Nat) : ∀ v : DVal, v.depth ≤ k → (pathsV k v).length ≤ v.weight ∧ ∀ i, i ≤ v.parts.length → k = k → (restV (k - 1) v i).length ≤ DVal.weights (v.parts.take i) := by
  induction k with
  | zero => intro v h; have := v.depth_pos; omega
  | succ k ih =>
    intro v hk
    have key : ∀ i, i ≤ v.parts.length → (restV k v i).length ≤ DVal.weights (v.parts.take i) := fun i => by
      induction i with
      | zero => intro _; simp [restV]
      | succ i ihi =>
        intro hi
        rw [restV_succ, List.length_append, List.length_map, weights_take _ _ (by omega)]
        have h1 := ihi (by omega)
        have hm : v.parts.getD i default ∈ v.parts := by rw [getD_at (by omega)]; exact List.getElem_mem _
        have h2 := (ih (v.parts.getD i default) (by have := DVal.depth_part hm; omega)).1
        omega
    refine ⟨?_, fun i hi _ => key i hi⟩
    rw [pathsV_succ, List.length_cons]
    have h1 := key v.parts.length (Nat.le_refl _)
    have h2 := v.weight_eq
    have h3 := weights_take_le v.parts v.parts.length
    omega
theorem restV_len {k : Nat} {v : DVal} (h : v.depth ≤ k + 1) {i : Nat} (hi : i ≤ v.parts.length) : (restV k v i).length ≤ v.weight := by
  have h1 := (pathsV_len (k + 1) v h).2 i hi rfl
  have h2 := weights_take_le v.parts i
  have h3 := v.weight_eq
  simp only [Nat.add_sub_cancel] at h1
  omega
def encPss (l : List (List DStp)) : D := .sl .no (l.map encPs)
theorem closed_encPs (l : List DStp) : (encPs l).closed := closed_steps .no trivial l
theorem closed_encPss (l : List (List DStp)) : (encPss l).closed := by
  simp only [encPss, D.closed, D.all, Own.all, true_and]
  refine allL_iff.2 fun d hd => ?_
  obtain ⟨p, _, rfl⟩ := List.mem_map.1 hd
  exact closed_encPs p
theorem frz_encP (p : DStp) : (encP p).frz = encP p := rfl
theorem frz_mapP (l : List DStp) : frzL (l.map encP) = l.map encP := by simp [frzL_map, frz_encP, Function.comp_def]
theorem frz_encPs (l : List DStp) : (encPs l).frz = encPs l := by simp only [encPs, D.frz, frz_mapP]
theorem frz_mapPs (l : List (List DStp)) : frzL (l.map encPs) = l.map encPs := by simp [frzL_map, frz_encPs, Function.comp_def]
/-- What a sound value has of names and numbers. -/
theorem RV.steps {v : DVal} (h : RV v) {i : Nat} (hi : i < v.parts.length) : (v.kind = 5 → i < v.names.length) ∧ (v.kind ≠ 5 → i < v.ids.length) := by
  obtain ⟨h1, h2, h3⟩ := h.here
  refine ⟨fun h5 => ?_, fun h5 => ?_⟩
  · have := h2 (by omega); omega
  · have := h1 h5; omega
set_option maxRecDepth 200000 in
set_option maxHeartbeats 8000000 in
theorem all_d (k : Nat) : ∀ (v : DVal) (a : List DStp) (ownA : Own), ownA.all (fun _ => False) → v.depth ≤ k → okV v → RV v → v.weight ≤ 1000000 → a.length + k ≤ 1000000 →
    DPure Try.prog 65 [encV v, .sl ownA (a.map encP)] (encPss ((pathsV k v).map (a ++ ·))) := by
  induction k with
  | zero => intro v a oA _ h; have := v.depth_pos; omega
  | succ k ih =>
    intro v a ownA hoA hk hok hrv hw ha
    have hwe := v.weight_eq
    have hpl := partsLen v
    obtain ⟨o1, o2, o3, o4, o5, o6, o7, o8, o9⟩ := (okV_eq v).1 hok
    refine dpure_of_dwp mixed Try.func65 rfl (fun _ _ => by kernel_rfl) (rs := [.tmp 4]) rfl (by kernel_rfl) (closed_encPss _) (fun S hS => ?_)
    (simp (disch := first | decide | omega | (simp only [nx]; first | done | omega)) only [go_sem, Nat.reduceMul, encV_eq v]; (repeat (with_reducible refine And.intro (by first | omega | assumption | rfl) ?_)))
    (refine dloop_row (fun t => List.contains [5, 6, 7, 8, 14, 15, 16, 17, 18, 19, 20, 21, 22, 23, 24, 25, 26, 27, 28, 29, 30, 31, 32, 33, 34, 35, 36, 37, 38, 39, 40, 41, 42, 43, 44] t) (by kernel_rfl) ?_ (v.parts.length) (44) (fun i own m f => i ≤ v.parts.length ∧ f 5 = .sl own (D.sl ownA (a.map encP) :: ((restV k v i).map (a ++ ·)).map encPs) ∧ f 14 = .v (.int .i64 (i : Nat)) ∧ (own = .full ∨ m = (restV k v i).length + 1)) ?_ ?_; (exact (by (repeat' first | assumption | refine St.WF.leave ?_ _ | refine St.WF.add ?_ _ | refine St.WF.set ?_ ?_ _ | refine St.WF.grow ?_ _ _ _ | refine St.WF.keep ?_ ?_ | (first | omega | (simp only [RowOk.lo, nx]; first | done | omega))))); (exact ⟨(by omega), (by (first | (simp (disch := first | decide | omega | (simp only [nx]; first | done | omega)) only [go_sem, Nat.reduceMul]; first | done | rfl) | rfl)), (by (first | (simp (disch := first | decide | omega | (simp only [nx]; first | done | omega)) only [go_sem, Nat.reduceMul]; first | done | rfl) | rfl)), (.inl rfl)⟩); intro i g tn own m hn hr hT hg hI; obtain ⟨le, q5, q14, hm⟩ := hI; have q1 := hg 1 rfl; have q2 := hg 2 rfl; have q4 := hg 4 rfl; have q12 := hg 12 rfl; have q13 := hg 13 rfl; simp (disch := first | decide | omega | (simp only [nx]; first | done | omega)) only [go_sem, Nat.reduceMul] at q1 q2 q4 q12 q13; clear hg; have hn' := hn; try simp only [add_next, set_next, grow_next, leave_next, drop_next] at hn')
    by_cases hlt : i < v.parts.length
    · have b1 : decide ((i : Int) < (v.parts.length : Int)) = true := by simp; omega
      have w1 : IntKind.i64.wrap ((i : Int) + 1) = ((i + 1 : Nat) : Int) := IntWalk.i64_in _ ⟨by omega, by omega⟩
      have hd := DVal.depth_part (List.getElem_mem hlt)
      have hww := DVal.weight_part (List.getElem_mem hlt)
      have hst := hrv.steps hlt
      have hro := fun {e m k} => rowOf_lt hr (e := e) (m := m) (k := k)
      have hwP : ∀ d ∈ List.map encP a, d.cells.length = 2 := fun d hd => by obtain ⟨q, _, rfl⟩ := List.mem_map.1 hd; rfl
      have hwE : ∀ d ∈ D.sl ownA (List.map encP a) :: List.map encPs (List.map (fun x => a ++ x) (restV k v i)), d.cells.length = 1 := fun d hd => by
        rcases List.mem_cons.1 hd with rfl | hd
        · rfl
        · obtain ⟨q, _, rfl⟩ := List.mem_map.1 hd; rfl
      have hwF : ∀ d ∈ List.map encPs ((pathsV k v.parts[i]).map ((a ++ [stepV v i]) ++ ·)), d.cells.length = 1 := fun d hd => by
        obtain ⟨q, _, rfl⟩ := List.mem_map.1 hd; rfl
      have hmE : own = .full ∨ m = (D.sl ownA (List.map encP a) :: List.map encPs (List.map (fun x => a ++ x) (restV k v i))).length := by simpa using hm
      have hlA := restV_len hk le
      have hlB := (pathsV_len k v.parts[i] (by omega)).1
      by_cases h5 : v.kind = 5
      · have b5 : (v.kind == 5) = true := by simp [h5]
        have hnm := hst.1 h5
        (simp (disch := first | decide | omega | (simp only [nx]; first | done | omega)) only [go_sem, Nat.reduceMul, q12, q13, q14, q5, q2, q1, b1, b5, hro]; (repeat (with_reducible refine And.intro (by first | omega | assumption | rfl) ?_)))
        refine ddraw_mk 8 (by kernel_rfl) ?_
        (simp (disch := first | decide | omega | (simp only [nx]; first | done | omega)) only [go_sem, Nat.reduceMul, q12, q13, q14, q5, q2, q1, b1, b5, hro]; (repeat (with_reducible refine And.intro (by first | omega | assumption | rfl) ?_)))
        refine dqgo_mk (clip_d ownA a (by omega)) ?_
        (simp (disch := first | decide | omega | (simp only [nx]; first | done | omega)) only [go_sem, Nat.reduceMul, q12, q13, q14, q5, q2, q1, b1, b5, hro]; (repeat (with_reducible refine And.intro (by first | omega | assumption | rfl) ?_)))
        refine dqgo_mk (d := encPss ((pathsV k v.parts[i]).map ((a ++ [stepV v i]) ++ ·))) ?_ ?_
        · have := ih v.parts[i] (a ++ [stepV v i]) .no trivial (by omega) (o9 _ (List.getElem_mem hlt)) (hrv.part (List.getElem_mem hlt)) (by omega) (by rw [List.length_append]; simp; omega)
          rw [List.map_append] at this
          simpa [stepV, h5, encP, strD, u64D, hnm, strB, sv] using this
        (simp (disch := first | decide | omega | (simp only [nx]; first | done | omega)) only [go_sem, Nat.reduceMul, q12, q13, q14, q5, q2, q1, b1, b5, hro, encPss]; (repeat (with_reducible refine And.intro (by first | omega | assumption | rfl) ?_)))
        (refine dapp_grow (by (first | (simp (disch := first | decide | omega | (simp only [nx]; first | done | omega)) only [go_sem, Nat.reduceMul]; first | done | rfl) | rfl)) (by (first | (simp (disch := first | decide | omega | (simp only [nx]; first | done | omega)) only [go_sem, Nat.reduceMul]; first | done | rfl) | rfl)) (by (first | (simp (disch := first | decide | omega | (simp only [nx]; first | done | omega)) only [go_sem, Nat.reduceMul]; first | done | rfl) | rfl)) (fun d hd => ?_) (fun d hd => ?_) hr (by (repeat' first | assumption | exact St.Sub.refl _ | exact RowOk.sub (by assumption) (by assumption) | refine St.Sub.trans ?_ (RowOk.sub (by assumption) (by assumption)) | refine St.Sub.add ?_ ?_ _ | refine St.Sub.set ?_ ?_ ?_ _ | refine St.Sub.keep ?_ ?_ | refine St.WF.leave ?_ _ | refine St.WF.add ?_ _ | refine St.WF.set ?_ ?_ _ | refine St.WF.grow ?_ _ _ _ | refine St.WF.keep ?_ ?_ | (first | omega | (simp only [RowOk.lo, nx]; first | done | omega)))) ?_ ?_ ?_ ?_; (exact (by first | (simp (disch := first | decide | omega | (simp only [nx]; first | done | omega)) only [go_sem, Nat.reduceMul]; done) | (simp (disch := first | decide | omega | (simp only [nx]; first | done | omega)) only [go_sem, Nat.reduceMul]; exact (hwE d hd)))); (exact (by first | (simp (disch := first | decide | omega | (simp only [nx]; first | done | omega)) only [go_sem, Nat.reduceMul]; done) | (simp (disch := first | decide | omega | (simp only [nx]; first | done | omega)) only [go_sem, Nat.reduceMul]; exact (hwF d hd)))); (exact (hmE)))
        · simp only [List.length_cons, List.length_map]; omega
        · simp (disch := first | decide | omega | (simp only [nx]; first | done | omega)) only [go_sem, Nat.reduceMul]; omega
        (simp (disch := first | decide | omega | (simp only [nx]; first | done | omega)) only [go_sem, Nat.reduceMul, q12, q13, q14, q5, w1]; (repeat (with_reducible refine And.intro (by first | omega | assumption | rfl) ?_)))
        (refine ⟨by omega, _, _, RowNext.grow (m := m) ?_ ?_ hr hn ?_ (St.Sub.refl _), ?_⟩; (exact (by (repeat' first | assumption | refine St.WF.leave ?_ _ | refine St.WF.add ?_ _ | refine St.WF.set ?_ ?_ _ | refine St.WF.grow ?_ _ _ _ | refine St.WF.keep ?_ ?_ | (first | omega | (simp only [RowOk.lo, nx]; first | done | omega))))); (exact (by (first | omega | (simp only [RowOk.lo, nx]; first | done | omega)))); (exact (by (repeat' first | assumption | exact St.Sub.refl _ | exact RowOk.sub (by assumption) (by assumption) | refine St.Sub.trans ?_ (RowOk.sub (by assumption) (by assumption)) | refine St.Sub.add ?_ ?_ _ | refine St.Sub.set ?_ ?_ ?_ _ | refine St.Sub.keep ?_ ?_ | refine St.WF.leave ?_ _ | refine St.WF.add ?_ _ | refine St.WF.set ?_ ?_ _ | refine St.WF.grow ?_ _ _ _ | refine St.WF.keep ?_ ?_ | (first | omega | (simp only [RowOk.lo, nx]; first | done | omega))))); refine ⟨by omega, ?_, ?_, ?_⟩; all_goals (try (first | (simp (disch := first | decide | omega | (simp only [nx]; first | done | omega)) only [go_sem, Nat.reduceMul, w1]; first | done | rfl) | rfl)))
        · simp (disch := first | decide | omega | (simp only [nx]; first | done | omega)) only [go_sem, Nat.reduceMul]
          rw [restV_succ, getD_at hlt]
          simp [List.map_append, List.map_map, Function.comp_def, List.append_assoc]
        · refine .inr ?_
          rw [restV_succ, getD_at hlt]
          simp only [List.length_append, List.length_map]
          omega
      · have b5 : (v.kind == 5) = false := by simp [h5]
        have hnm := hst.2 h5
        (simp (disch := first | decide | omega | (simp only [nx]; first | done | omega)) only [go_sem, Nat.reduceMul, q12, q13, q14, q5, q2, q1, b1, b5, hro]; (repeat (with_reducible refine And.intro (by first | omega | assumption | rfl) ?_)))
        refine ddraw_mk 8 (by kernel_rfl) ?_
        (simp (disch := first | decide | omega | (simp only [nx]; first | done | omega)) only [go_sem, Nat.reduceMul, q12, q13, q14, q5, q2, q1, b1, b5, hro]; (repeat (with_reducible refine And.intro (by first | omega | assumption | rfl) ?_)))
        refine dqgo_mk (clip_d ownA a (by omega)) ?_
        (simp (disch := first | decide | omega | (simp only [nx]; first | done | omega)) only [go_sem, Nat.reduceMul, q12, q13, q14, q5, q2, q1, b1, b5, hro]; (repeat (with_reducible refine And.intro (by first | omega | assumption | rfl) ?_)))
        refine dqgo_mk (d := encPss ((pathsV k v.parts[i]).map ((a ++ [stepV v i]) ++ ·))) ?_ ?_
        · have := ih v.parts[i] (a ++ [stepV v i]) .no trivial (by omega) (o9 _ (List.getElem_mem hlt)) (hrv.part (List.getElem_mem hlt)) (by omega) (by rw [List.length_append]; simp; omega)
          rw [List.map_append] at this
          simpa [stepV, h5, encP, strD, u64D, hnm, strB, sv] using this
        (simp (disch := first | decide | omega | (simp only [nx]; first | done | omega)) only [go_sem, Nat.reduceMul, q12, q13, q14, q5, q2, q1, b1, b5, hro, encPss]; (repeat (with_reducible refine And.intro (by first | omega | assumption | rfl) ?_)))
        (refine dapp_grow (by (first | (simp (disch := first | decide | omega | (simp only [nx]; first | done | omega)) only [go_sem, Nat.reduceMul]; first | done | rfl) | rfl)) (by (first | (simp (disch := first | decide | omega | (simp only [nx]; first | done | omega)) only [go_sem, Nat.reduceMul]; first | done | rfl) | rfl)) (by (first | (simp (disch := first | decide | omega | (simp only [nx]; first | done | omega)) only [go_sem, Nat.reduceMul]; first | done | rfl) | rfl)) (fun d hd => ?_) (fun d hd => ?_) hr (by (repeat' first | assumption | exact St.Sub.refl _ | exact RowOk.sub (by assumption) (by assumption) | refine St.Sub.trans ?_ (RowOk.sub (by assumption) (by assumption)) | refine St.Sub.add ?_ ?_ _ | refine St.Sub.set ?_ ?_ ?_ _ | refine St.Sub.keep ?_ ?_ | refine St.WF.leave ?_ _ | refine St.WF.add ?_ _ | refine St.WF.set ?_ ?_ _ | refine St.WF.grow ?_ _ _ _ | refine St.WF.keep ?_ ?_ | (first | omega | (simp only [RowOk.lo, nx]; first | done | omega)))) ?_ ?_ ?_ ?_; (exact (by first | (simp (disch := first | decide | omega | (simp only [nx]; first | done | omega)) only [go_sem, Nat.reduceMul]; done) | (simp (disch := first | decide | omega | (simp only [nx]; first | done | omega)) only [go_sem, Nat.reduceMul]; exact (hwE d hd)))); (exact (by first | (simp (disch := first | decide | omega | (simp only [nx]; first | done | omega)) only [go_sem, Nat.reduceMul]; done) | (simp (disch := first | decide | omega | (simp only [nx]; first | done | omega)) only [go_sem, Nat.reduceMul]; exact (hwF d hd)))); (exact (hmE)))
        · simp only [List.length_cons, List.length_map]; omega
        · simp (disch := first | decide | omega | (simp only [nx]; first | done | omega)) only [go_sem, Nat.reduceMul]; omega
        (simp (disch := first | decide | omega | (simp only [nx]; first | done | omega)) only [go_sem, Nat.reduceMul, q12, q13, q14, q5, w1]; (repeat (with_reducible refine And.intro (by first | omega | assumption | rfl) ?_)))
        (refine ⟨by omega, _, _, RowNext.grow (m := m) ?_ ?_ hr hn ?_ (St.Sub.refl _), ?_⟩; (exact (by (repeat' first | assumption | refine St.WF.leave ?_ _ | refine St.WF.add ?_ _ | refine St.WF.set ?_ ?_ _ | refine St.WF.grow ?_ _ _ _ | refine St.WF.keep ?_ ?_ | (first | omega | (simp only [RowOk.lo, nx]; first | done | omega))))); (exact (by (first | omega | (simp only [RowOk.lo, nx]; first | done | omega)))); (exact (by (repeat' first | assumption | exact St.Sub.refl _ | exact RowOk.sub (by assumption) (by assumption) | refine St.Sub.trans ?_ (RowOk.sub (by assumption) (by assumption)) | refine St.Sub.add ?_ ?_ _ | refine St.Sub.set ?_ ?_ ?_ _ | refine St.Sub.keep ?_ ?_ | refine St.WF.leave ?_ _ | refine St.WF.add ?_ _ | refine St.WF.set ?_ ?_ _ | refine St.WF.grow ?_ _ _ _ | refine St.WF.keep ?_ ?_ | (first | omega | (simp only [RowOk.lo, nx]; first | done | omega))))); refine ⟨by omega, ?_, ?_, ?_⟩; all_goals (try (first | (simp (disch := first | decide | omega | (simp only [nx]; first | done | omega)) only [go_sem, Nat.reduceMul, w1]; first | done | rfl) | rfl)))
        · simp (disch := first | decide | omega | (simp only [nx]; first | done | omega)) only [go_sem, Nat.reduceMul]
          rw [restV_succ, getD_at hlt]
          simp [List.map_append, List.map_map, Function.comp_def, List.append_assoc]
        · refine .inr ?_
          rw [restV_succ, getD_at hlt]
          simp only [List.length_append, List.length_map]
          omega
    · have b1 : decide ((i : Int) < (v.parts.length : Int)) = false := by simp; omega
      (simp (disch := first | decide | omega | (simp only [nx]; first | done | omega)) only [go_sem, Nat.reduceMul, q12, q13, q14, q5, b1]; (repeat (with_reducible refine And.intro (by first | omega | assumption | rfl) ?_)))
      refine ⟨?_, (by (repeat' first | assumption | exact St.Sub.refl _ | exact RowOk.sub (by assumption) (by assumption) | refine St.Sub.trans ?_ (RowOk.sub (by assumption) (by assumption)) | refine St.Sub.add ?_ ?_ _ | refine St.Sub.set ?_ ?_ ?_ _ | refine St.Sub.keep ?_ ?_ | refine St.WF.leave ?_ _ | refine St.WF.add ?_ _ | refine St.WF.set ?_ ?_ _ | refine St.WF.grow ?_ _ _ _ | refine St.WF.keep ?_ ?_ | (first | omega | (simp only [RowOk.lo, nx]; first | done | omega))))⟩
      have hi : i = v.parts.length := by omega
      subst hi
      simp only [D.frz, frzL, frz_mapP, frz_mapPs]
      rw [pathsV_succ, List.map_cons, List.append_nil, encPss, List.map_cons]
      rfl
end Go.Proofs.Ytjjhjhjphhpeiaa

namespace Go.Proofs.Ytjjhjhjphhpeiaa
open Go.RowKit
set_option linter.unusedSimpArgs false
def allTop (v : DVal) : List (List DStp) := if rightV 5 v = true then pathsV v.depth v else []
set_option maxRecDepth 200000 in
set_option maxHeartbeats 8000000 in
theorem allTop_d (v : DVal) (hok : okV v) (hw : v.weight ≤ 1000000) : DPure Try.prog 39 [encV v] (encPss (allTop v)) := by
  refine dpure_of_dwp mixed Try.func39 rfl (fun _ _ => by kernel_rfl) (rs := [.tmp 2]) rfl (by kernel_rfl) (closed_encPss _) (fun S hS => ?_)
  (simp (disch := first | decide | omega | (simp only [nx]; first | done | omega)) only [go_sem, Nat.reduceMul]; (repeat (with_reducible refine And.intro (by first | omega | assumption | rfl) ?_)))
  refine DCalls.of_pure (valRight_d v hok) ?_
  cases h : rightV 5 v with
  | false =>
    (simp (disch := first | decide | omega | (simp only [nx]; first | done | omega)) only [go_sem, Nat.reduceMul]; (repeat (with_reducible refine And.intro (by first | omega | assumption | rfl) ?_)))
    refine ⟨?_, (by (repeat' first | assumption | exact St.Sub.refl _ | exact RowOk.sub (by assumption) (by assumption) | refine St.Sub.trans ?_ (RowOk.sub (by assumption) (by assumption)) | refine St.Sub.add ?_ ?_ _ | refine St.Sub.set ?_ ?_ ?_ _ | refine St.Sub.keep ?_ ?_ | refine St.WF.leave ?_ _ | refine St.WF.add ?_ _ | refine St.WF.set ?_ ?_ _ | refine St.WF.grow ?_ _ _ _ | refine St.WF.keep ?_ ?_ | (first | omega | (simp only [RowOk.lo, nx]; first | done | omega))))⟩
    simp only [allTop, h]
    rfl
  | true =>
    (simp (disch := first | decide | omega | (simp only [nx]; first | done | omega)) only [go_sem, Nat.reduceMul]; (repeat (with_reducible refine And.intro (by first | omega | assumption | rfl) ?_)))
    have hd := DVal.depth_weight v.depth v (Nat.le_refl _)
    refine DCalls.of_pure (all_d v.depth v [] .full trivial (Nat.le_refl _) hok (RV.of_right h) hw (by simp; omega)) ?_
    (simp (disch := first | decide | omega | (simp only [nx]; first | done | omega)) only [go_sem, Nat.reduceMul]; (repeat (with_reducible refine And.intro (by first | omega | assumption | rfl) ?_)))
    refine ⟨?_, (by (repeat' first | assumption | exact St.Sub.refl _ | exact RowOk.sub (by assumption) (by assumption) | refine St.Sub.trans ?_ (RowOk.sub (by assumption) (by assumption)) | refine St.Sub.add ?_ ?_ _ | refine St.Sub.set ?_ ?_ ?_ _ | refine St.Sub.keep ?_ ?_ | refine St.WF.leave ?_ _ | refine St.WF.add ?_ _ | refine St.WF.set ?_ ?_ _ | refine St.WF.grow ?_ _ _ _ | refine St.WF.keep ?_ ?_ | (first | omega | (simp only [RowOk.lo, nx]; first | done | omega))))⟩
    simp only [allTop, h, if_true, List.nil_append, List.map_id']
    simp only [encPss, D.frz, frz_mapPs]
theorem pathsV_bound (k : Nat) : ∀ v : DVal, v.depth ≤ k → ∀ p ∈ pathsV k v, p.length ≤ v.depth := by
  induction k with
  | zero => intro v h; have := v.depth_pos; omega
  | succ k ih =>
    intro v hk p hp
    rw [pathsV_succ, restV, List.mem_cons, List.mem_flatMap] at hp
    rcases hp with rfl | ⟨i, hi, hp⟩
    · simp
    · have hi := List.mem_range.1 hi
      obtain ⟨q, hq, rfl⟩ := List.mem_map.1 hp
      have hm : v.parts.getD i default ∈ v.parts := by rw [getD_at hi]; exact List.getElem_mem _
      have h1 := DVal.depth_part hm
      have h2 := ih (v.parts.getD i default) (by omega) q hq
      simp only [List.length_cons]; omega
set_option maxRecDepth 200000 in
set_option maxHeartbeats 8000000 in
theorem refAll_d (k : Nat) : ∀ (v : DVal), v.depth ≤ k → okV v → RV v → v.weight ≤ 1000000 → DPure Try.prog 44 [encV v] (encPss (pathsV k v)) := by
  induction k with
  | zero => intro v h; have := v.depth_pos; omega
  | succ k ih =>
    intro v hk hok hrv hw
    have hwe := v.weight_eq
    have hpl := partsLen v
    have hdw := DVal.depth_weight v.depth v (Nat.le_refl _)
    obtain ⟨o1, o2, o3, o4, o5, o6, o7, o8, o9⟩ := (okV_eq v).1 hok
    refine dpure_of_dwp mixed Try.func44 rfl (fun _ _ => by kernel_rfl) (rs := [.tmp 2]) rfl (by kernel_rfl) (closed_encPss _) (fun S hS => ?_)
    (simp (disch := first | decide | omega | (simp only [nx]; first | done | omega)) only [go_sem, Nat.reduceMul, encV_eq v]; (repeat (with_reducible refine And.intro (by first | omega | assumption | rfl) ?_)))
    (refine dloop_row (fun t => List.contains [3, 4, 5, 6, 7, 10, 11, 12, 13, 14, 15, 16, 17, 18, 19, 20, 21, 22, 23, 24, 25, 26, 27, 28, 29, 30, 31, 32, 33, 34, 35, 36, 37, 38, 39, 40, 41, 42, 43, 44, 45, 46, 47, 48, 49, 50, 51, 52, 53] t) (by kernel_rfl) ?_ (v.parts.length) (44) (fun i own m f => i ≤ v.parts.length ∧ f 3 = .sl own (D.sl .full [] :: (restV k v i).map encPs) ∧ f 4 = .v (.int .i64 (i : Nat)) ∧ (own = .full ∨ m = (restV k v i).length + 1)) ?_ ?_; (exact (by (repeat' first | assumption | refine St.WF.leave ?_ _ | refine St.WF.add ?_ _ | refine St.WF.set ?_ ?_ _ | refine St.WF.grow ?_ _ _ _ | refine St.WF.keep ?_ ?_ | (first | omega | (simp only [RowOk.lo, nx]; first | done | omega))))); (exact ⟨(by omega), (by (first | (simp (disch := first | decide | omega | (simp only [nx]; first | done | omega)) only [go_sem, Nat.reduceMul]; first | done | rfl) | rfl)), (by (first | (simp (disch := first | decide | omega | (simp only [nx]; first | done | omega)) only [go_sem, Nat.reduceMul]; first | done | rfl) | rfl)), (.inl rfl)⟩); intro i g tn own m hn hr hT hg hI; obtain ⟨le, q3, q4, hm⟩ := hI; have q1 := hg 1 rfl; have q2 := hg 2 rfl; simp (disch := first | decide | omega | (simp only [nx]; first | done | omega)) only [go_sem, Nat.reduceMul] at q1 q2; clear hg; have hn' := hn; try simp only [add_next, set_next, grow_next, leave_next, drop_next] at hn')
    by_cases hlt : i < v.parts.length
    · have b1 : decide ((i : Int) < (v.parts.length : Int)) = true := by simp; omega
      have w1 : IntKind.i64.wrap ((i : Int) + 1) = ((i + 1 : Nat) : Int) := IntWalk.i64_in _ ⟨by omega, by omega⟩
      have hd := DVal.depth_part (List.getElem_mem hlt)
      have hww := DVal.weight_part (List.getElem_mem hlt)
      have hst := hrv.steps hlt
      have hro := fun {e m k} => rowOf_lt hr (e := e) (m := m) (k := k)
      have hlA := restV_len hk le
      have hlB := (pathsV_len k v.parts[i] (by omega)).1
      have ih' := ih v.parts[i] (by omega) (o9 _ (List.getElem_mem hlt)) (hrv.part (List.getElem_mem hlt)) (by omega)
      by_cases h5 : v.kind = 5
      · have b5 : (v.kind == 5) = true := by simp [h5]
        have hnm := hst.1 h5
        (simp (disch := first | decide | omega | (simp only [nx]; first | done | omega)) only [go_sem, Nat.reduceMul, q3, q4, q1, b1, b5, hro]; (repeat (with_reducible refine And.intro (by first | omega | assumption | rfl) ?_)))
        refine DCalls.of_pure ih' ?_
        (simp (disch := first | decide | omega | (simp only [nx]; first | done | omega)) only [go_sem, Nat.reduceMul, q3, q4, q1, b1, b5, hro, encPss]; (repeat (with_reducible refine And.intro (by first | omega | assumption | rfl) ?_)))
        have hw1 := fun (q : Nat) (h : q < (pathsV k v.parts[i]).length) => (IntWalk.i64_in ((q : Int) + 1) ⟨by omega, by omega⟩ : IntKind.i64.wrap ((q : Int) + 1) = ((q + 1 : Nat) : Int))
        (refine dloop_rowI (fun t => List.contains [3, 7, 38, 39, 40, 41, 42, 43, 44, 45, 46, 47, 48, 49, 50, 51, 52, 53] t) (by kernel_rfl) ?_ ((pathsV k v.parts[i]).length) (44) (RowOk.lo hr) (own) (m) ?_ (fun ib ownb mb f => ib ≤ (pathsV k v.parts[i]).length ∧ f 3 = .sl ownb (D.sl .full [] :: (restV k v i ++ ((pathsV k v.parts[i]).take ib).map (stepV v i :: ·)).map encPs) ∧ f 7 = .v (.int .i64 (ib : Nat)) ∧ (ownb = .full ∨ mb = (restV k v i).length + ib + 1)) ?_ ?_; (exact (by (repeat' first | assumption | refine St.WF.leave ?_ _ | refine St.WF.add ?_ _ | refine St.WF.set ?_ ?_ _ | refine St.WF.grow ?_ _ _ _ | refine St.WF.keep ?_ ?_ | (first | omega | (simp only [RowOk.lo, nx]; first | done | omega))))); (exact (RowOk.entry hr (by (repeat' first | assumption | exact St.Sub.refl _ | exact RowOk.sub (by assumption) (by assumption) | refine St.Sub.trans ?_ (RowOk.sub (by assumption) (by assumption)) | refine St.Sub.add ?_ ?_ _ | refine St.Sub.set ?_ ?_ ?_ _ | refine St.Sub.keep ?_ ?_ | refine St.WF.leave ?_ _ | refine St.WF.add ?_ _ | refine St.WF.set ?_ ?_ _ | refine St.WF.grow ?_ _ _ _ | refine St.WF.keep ?_ ?_ | (first | omega | (simp only [RowOk.lo, nx]; first | done | omega)))))); (exact ⟨(by omega), (by (first | (simp (disch := first | decide | omega | (simp only [nx]; first | done | omega)) only [go_sem, Nat.reduceMul, q1, q3, q4, List.take_zero, List.map_nil, List.append_nil]; first | done | rfl) | rfl)), (by (first | (simp (disch := first | decide | omega | (simp only [nx]; first | done | omega)) only [go_sem, Nat.reduceMul, q1, q3, q4, List.take_zero, List.map_nil, List.append_nil]; first | done | rfl) | rfl)), (hm)⟩); intro ib gb tnb ownb mb hnb hrb hTb hgb hIb; obtain ⟨leb, q3b, q7b, hmb⟩ := hIb; have q2b := hgb 2 rfl; have q4b := hgb 4 rfl; have q5b := hgb 5 rfl; have q6b := hgb 6 rfl; simp (disch := first | decide | omega | (simp only [nx]; first | done | omega)) only [go_sem, Nat.reduceMul, q1, q3, q4, List.take_zero, List.map_nil, List.append_nil] at q2b q4b q5b q6b; clear hgb; have hnb' := hnb; try simp only [add_next, set_next, grow_next, leave_next, drop_next] at hnb')
        have hx5 := inner_ob (e := 44) (mb := mb) (k := tn) (t := 78) (cs := [strD (stepV v i).1, u64D (stepV v i).2]) (RowOk.entry hr (by (repeat' first | assumption | exact St.Sub.refl _ | exact RowOk.sub (by assumption) (by assumption) | refine St.Sub.trans ?_ (RowOk.sub (by assumption) (by assumption)) | refine St.Sub.add ?_ ?_ _ | refine St.Sub.set ?_ ?_ ?_ _ | refine St.Sub.keep ?_ ?_ | refine St.WF.leave ?_ _ | refine St.WF.add ?_ _ | refine St.WF.set ?_ ?_ _ | refine St.WF.grow ?_ _ _ _ | refine St.WF.keep ?_ ?_ | (first | omega | (simp only [RowOk.lo, nx]; first | done | omega))))) hrb (by simp (disch := first | decide | omega | (simp only [nx]; first | done | omega)) only [go_sem, Nat.reduceMul]; first | done | simp [stepV, h5, encP, hnm, strD, u64D, sv])
        by_cases hltb : ib < (pathsV k v.parts[i]).length
        · have b1b : decide ((ib : Int) < ((pathsV k v.parts[i]).length : Int)) = true := by simp; omega
          have w1b := hw1 ib hltb
          have hwE : ∀ d ∈ D.sl .full [] :: (restV k v i ++ ((pathsV k v.parts[i]).take ib).map (stepV v i :: ·)).map encPs, d.cells.length = 1 := fun d hd => by
            rcases List.mem_cons.1 hd with rfl | hd
            · rfl
            · obtain ⟨q, _, rfl⟩ := List.mem_map.1 hd; rfl
          have hqb := pathsV_bound k v.parts[i] (by omega) _ (List.getElem_mem hltb)
          have htk : ((pathsV k v.parts[i]).take ib).length = ib := by rw [List.length_take]; omega
          (simp (disch := first | decide | omega | (simp only [nx]; first | done | omega)) only [go_sem, Nat.reduceMul, q3b, q7b, b1b, q5b, q6b]; (repeat (with_reducible refine And.intro (by first | omega | assumption | rfl) ?_)))
          refine ddraw_mk 9 (by kernel_rfl) ?_
          (simp (disch := first | decide | omega | (simp only [nx]; first | done | omega)) only [go_sem, Nat.reduceMul, q3b, q7b, b1b, q5b, q6b, hx5, encPs]; (repeat (with_reducible refine And.intro (by first | omega | assumption | rfl) ?_)))
          (refine dapp_grow (by (first | (simp (disch := first | decide | omega | (simp only [nx]; first | done | omega)) only [go_sem, Nat.reduceMul]; first | done | rfl) | rfl)) (by (first | (simp (disch := first | decide | omega | (simp only [nx]; first | done | omega)) only [go_sem, Nat.reduceMul]; first | done | rfl) | rfl)) (by (first | (simp (disch := first | decide | omega | (simp only [nx]; first | done | omega)) only [go_sem, Nat.reduceMul]; first | done | rfl) | rfl)) (fun d hd => ?_) (fun d hd => ?_) hrb (by (repeat' first | assumption | exact St.Sub.refl _ | exact RowOk.sub (by assumption) (by assumption) | refine St.Sub.trans ?_ (RowOk.sub (by assumption) (by assumption)) | refine St.Sub.add ?_ ?_ _ | refine St.Sub.set ?_ ?_ ?_ _ | refine St.Sub.keep ?_ ?_ | refine St.WF.leave ?_ _ | refine St.WF.add ?_ _ | refine St.WF.set ?_ ?_ _ | refine St.WF.grow ?_ _ _ _ | refine St.WF.keep ?_ ?_ | (first | omega | (simp only [RowOk.lo, nx]; first | done | omega)))) ?_ ?_ ?_ ?_; (exact (by first | (simp (disch := first | decide | omega | (simp only [nx]; first | done | omega)) only [go_sem, Nat.reduceMul]; done) | (simp (disch := first | decide | omega | (simp only [nx]; first | done | omega)) only [go_sem, Nat.reduceMul]; exact (hwE d hd)))); (exact (by first | (simp (disch := first | decide | omega | (simp only [nx]; first | done | omega)) only [go_sem, Nat.reduceMul]; done) | (simp (disch := first | decide | omega | (simp only [nx]; first | done | omega)) only [go_sem, Nat.reduceMul]; exact ((by rw [List.mem_singleton] at hd; subst hd; rfl))))); (exact ((by rcases hmb with h1 | h1; exact .inl h1; exact .inr (by rw [h1]; simp only [List.length_cons, List.length_map, List.length_append, htk])))))
          · simp only [List.length_cons, List.length_map, List.length_append, htk, List.length_nil]; omega
          · simp only [List.length_cons, List.length_map, List.length_append, htk, List.length_nil]; simp (disch := first | decide | omega | (simp only [nx]; first | done | omega)) only [go_sem, Nat.reduceMul]; omega
          (simp (disch := first | decide | omega | (simp only [nx]; first | done | omega)) only [go_sem, Nat.reduceMul, q3b, q7b, b1b, q5b, q6b, w1b]; (repeat (with_reducible refine And.intro (by first | omega | assumption | rfl) ?_)))
          (refine ⟨by omega, _, _, RowNext.grow (m := mb) ?_ ?_ hrb hnb ?_ (St.Sub.refl _), ?_⟩; (exact (by (repeat' first | assumption | refine St.WF.leave ?_ _ | refine St.WF.add ?_ _ | refine St.WF.set ?_ ?_ _ | refine St.WF.grow ?_ _ _ _ | refine St.WF.keep ?_ ?_ | (first | omega | (simp only [RowOk.lo, nx]; first | done | omega))))); (exact (by (first | omega | (simp only [RowOk.lo, nx]; first | done | omega)))); (exact (by (repeat' first | assumption | exact St.Sub.refl _ | exact RowOk.sub (by assumption) (by assumption) | refine St.Sub.trans ?_ (RowOk.sub (by assumption) (by assumption)) | refine St.Sub.add ?_ ?_ _ | refine St.Sub.set ?_ ?_ ?_ _ | refine St.Sub.keep ?_ ?_ | refine St.WF.leave ?_ _ | refine St.WF.add ?_ _ | refine St.WF.set ?_ ?_ _ | refine St.WF.grow ?_ _ _ _ | refine St.WF.keep ?_ ?_ | (first | omega | (simp only [RowOk.lo, nx]; first | done | omega))))); refine ⟨by omega, ?_, ?_, ?_⟩; all_goals (try (first | (simp (disch := first | decide | omega | (simp only [nx]; first | done | omega)) only [go_sem, Nat.reduceMul, w1b]; first | done | rfl) | rfl)))
          · simp (disch := first | decide | omega | (simp only [nx]; first | done | omega)) only [go_sem, Nat.reduceMul]
            rw [List.take_succ_eq_append_getElem hltb]
            simp only [List.map_append, List.map_cons, List.map_nil, List.append_assoc, List.cons_append, List.nil_append, encPs, encP, stepV, h5, if_true, getD_at hnm, strD, u64D]
          · exact .inr (by simp only [List.length_cons, List.length_map, List.length_append, htk, List.length_nil]; omega)
        · have b1b : decide ((ib : Int) < ((pathsV k v.parts[i]).length : Int)) = false := by simp; omega
          (simp (disch := first | decide | omega | (simp only [nx]; first | done | omega)) only [go_sem, Nat.reduceMul, q3b, q7b, b1b, q5b, q6b, q4b, w1]; (repeat (with_reducible refine And.intro (by first | omega | assumption | rfl) ?_)))
          have hib : ib = (pathsV k v.parts[i]).length := by omega
          (refine ⟨by omega, _, _, RowNext.inner (m := m) (m' := mb) hr hn ?_ hrb hnb ?_, ?_⟩; (exact (by (repeat' first | assumption | exact St.Sub.refl _ | exact RowOk.sub (by assumption) (by assumption) | refine St.Sub.trans ?_ (RowOk.sub (by assumption) (by assumption)) | refine St.Sub.add ?_ ?_ _ | refine St.Sub.set ?_ ?_ ?_ _ | refine St.Sub.keep ?_ ?_ | refine St.WF.leave ?_ _ | refine St.WF.add ?_ _ | refine St.WF.set ?_ ?_ _ | refine St.WF.grow ?_ _ _ _ | refine St.WF.keep ?_ ?_ | (first | omega | (simp only [RowOk.lo, nx]; first | done | omega))))); (exact (by (repeat' first | assumption | exact St.Sub.refl _ | exact RowOk.sub (by assumption) (by assumption) | refine St.Sub.trans ?_ (RowOk.sub (by assumption) (by assumption)) | refine St.Sub.add ?_ ?_ _ | refine St.Sub.set ?_ ?_ ?_ _ | refine St.Sub.keep ?_ ?_ | refine St.WF.leave ?_ _ | refine St.WF.add ?_ _ | refine St.WF.set ?_ ?_ _ | refine St.WF.grow ?_ _ _ _ | refine St.WF.keep ?_ ?_ | (first | omega | (simp only [RowOk.lo, nx]; first | done | omega))))); refine ⟨by omega, ?_, ?_, ?_⟩; all_goals (try (first | (simp (disch := first | decide | omega | (simp only [nx]; first | done | omega)) only [go_sem, Nat.reduceMul, w1]; first | done | rfl) | rfl)))
          · simp (disch := first | decide | omega | (simp only [nx]; first | done | omega)) only [go_sem, Nat.reduceMul, q3b]
            rw [restV_succ, getD_at hlt, hib, List.take_length]
          · rcases hmb with h1 | h1
            · exact .inl h1
            · exact .inr (by rw [restV_succ, getD_at hlt, h1, hib]; simp only [List.length_append, List.length_map])
      · have b5 : (v.kind == 5) = false := by simp [h5]
        have hnm := hst.2 h5
        (simp (disch := first | decide | omega | (simp only [nx]; first | done | omega)) only [go_sem, Nat.reduceMul, q3, q4, q1, b1, b5, hro]; (repeat (with_reducible refine And.intro (by first | omega | assumption | rfl) ?_)))
        refine DCalls.of_pure ih' ?_
        (simp (disch := first | decide | omega | (simp only [nx]; first | done | omega)) only [go_sem, Nat.reduceMul, q3, q4, q1, b1, b5, hro, encPss]; (repeat (with_reducible refine And.intro (by first | omega | assumption | rfl) ?_)))
        have hw1 := fun (q : Nat) (h : q < (pathsV k v.parts[i]).length) => (IntWalk.i64_in ((q : Int) + 1) ⟨by omega, by omega⟩ : IntKind.i64.wrap ((q : Int) + 1) = ((q + 1 : Nat) : Int))
        (refine dloop_rowI (fun t => List.contains [3, 7, 38, 39, 40, 41, 42, 43, 44, 45, 46, 47, 48, 49, 50, 51, 52, 53] t) (by kernel_rfl) ?_ ((pathsV k v.parts[i]).length) (44) (RowOk.lo hr) (own) (m) ?_ (fun ib ownb mb f => ib ≤ (pathsV k v.parts[i]).length ∧ f 3 = .sl ownb (D.sl .full [] :: (restV k v i ++ ((pathsV k v.parts[i]).take ib).map (stepV v i :: ·)).map encPs) ∧ f 7 = .v (.int .i64 (ib : Nat)) ∧ (ownb = .full ∨ mb = (restV k v i).length + ib + 1)) ?_ ?_; (exact (by (repeat' first | assumption | refine St.WF.leave ?_ _ | refine St.WF.add ?_ _ | refine St.WF.set ?_ ?_ _ | refine St.WF.grow ?_ _ _ _ | refine St.WF.keep ?_ ?_ | (first | omega | (simp only [RowOk.lo, nx]; first | done | omega))))); (exact (RowOk.entry hr (by (repeat' first | assumption | exact St.Sub.refl _ | exact RowOk.sub (by assumption) (by assumption) | refine St.Sub.trans ?_ (RowOk.sub (by assumption) (by assumption)) | refine St.Sub.add ?_ ?_ _ | refine St.Sub.set ?_ ?_ ?_ _ | refine St.Sub.keep ?_ ?_ | refine St.WF.leave ?_ _ | refine St.WF.add ?_ _ | refine St.WF.set ?_ ?_ _ | refine St.WF.grow ?_ _ _ _ | refine St.WF.keep ?_ ?_ | (first | omega | (simp only [RowOk.lo, nx]; first | done | omega)))))); (exact ⟨(by omega), (by (first | (simp (disch := first | decide | omega | (simp only [nx]; first | done | omega)) only [go_sem, Nat.reduceMul, q1, q3, q4, List.take_zero, List.map_nil, List.append_nil]; first | done | rfl) | rfl)), (by (first | (simp (disch := first | decide | omega | (simp only [nx]; first | done | omega)) only [go_sem, Nat.reduceMul, q1, q3, q4, List.take_zero, List.map_nil, List.append_nil]; first | done | rfl) | rfl)), (hm)⟩); intro ib gb tnb ownb mb hnb hrb hTb hgb hIb; obtain ⟨leb, q3b, q7b, hmb⟩ := hIb; have q2b := hgb 2 rfl; have q4b := hgb 4 rfl; have q5b := hgb 5 rfl; have q6b := hgb 6 rfl; simp (disch := first | decide | omega | (simp only [nx]; first | done | omega)) only [go_sem, Nat.reduceMul, q1, q3, q4, List.take_zero, List.map_nil, List.append_nil] at q2b q4b q5b q6b; clear hgb; have hnb' := hnb; try simp only [add_next, set_next, grow_next, leave_next, drop_next] at hnb')
        have hx5 := inner_ob (e := 44) (mb := mb) (k := tn) (t := 78) (cs := [strD (stepV v i).1, u64D (stepV v i).2]) (RowOk.entry hr (by (repeat' first | assumption | exact St.Sub.refl _ | exact RowOk.sub (by assumption) (by assumption) | refine St.Sub.trans ?_ (RowOk.sub (by assumption) (by assumption)) | refine St.Sub.add ?_ ?_ _ | refine St.Sub.set ?_ ?_ ?_ _ | refine St.Sub.keep ?_ ?_ | refine St.WF.leave ?_ _ | refine St.WF.add ?_ _ | refine St.WF.set ?_ ?_ _ | refine St.WF.grow ?_ _ _ _ | refine St.WF.keep ?_ ?_ | (first | omega | (simp only [RowOk.lo, nx]; first | done | omega))))) hrb (by simp (disch := first | decide | omega | (simp only [nx]; first | done | omega)) only [go_sem, Nat.reduceMul]; first | done | simp [stepV, h5, encP, hnm, strD, u64D, sv, strB])
        by_cases hltb : ib < (pathsV k v.parts[i]).length
        · have b1b : decide ((ib : Int) < ((pathsV k v.parts[i]).length : Int)) = true := by simp; omega
          have w1b := hw1 ib hltb
          have hwE : ∀ d ∈ D.sl .full [] :: (restV k v i ++ ((pathsV k v.parts[i]).take ib).map (stepV v i :: ·)).map encPs, d.cells.length = 1 := fun d hd => by
            rcases List.mem_cons.1 hd with rfl | hd
            · rfl
            · obtain ⟨q, _, rfl⟩ := List.mem_map.1 hd; rfl
          have hqb := pathsV_bound k v.parts[i] (by omega) _ (List.getElem_mem hltb)
          have htk : ((pathsV k v.parts[i]).take ib).length = ib := by rw [List.length_take]; omega
          (simp (disch := first | decide | omega | (simp only [nx]; first | done | omega)) only [go_sem, Nat.reduceMul, q3b, q7b, b1b, q5b, q6b]; (repeat (with_reducible refine And.intro (by first | omega | assumption | rfl) ?_)))
          refine ddraw_mk 9 (by kernel_rfl) ?_
          (simp (disch := first | decide | omega | (simp only [nx]; first | done | omega)) only [go_sem, Nat.reduceMul, q3b, q7b, b1b, q5b, q6b, hx5, encPs]; (repeat (with_reducible refine And.intro (by first | omega | assumption | rfl) ?_)))
          (refine dapp_grow (by (first | (simp (disch := first | decide | omega | (simp only [nx]; first | done | omega)) only [go_sem, Nat.reduceMul]; first | done | rfl) | rfl)) (by (first | (simp (disch := first | decide | omega | (simp only [nx]; first | done | omega)) only [go_sem, Nat.reduceMul]; first | done | rfl) | rfl)) (by (first | (simp (disch := first | decide | omega | (simp only [nx]; first | done | omega)) only [go_sem, Nat.reduceMul]; first | done | rfl) | rfl)) (fun d hd => ?_) (fun d hd => ?_) hrb (by (repeat' first | assumption | exact St.Sub.refl _ | exact RowOk.sub (by assumption) (by assumption) | refine St.Sub.trans ?_ (RowOk.sub (by assumption) (by assumption)) | refine St.Sub.add ?_ ?_ _ | refine St.Sub.set ?_ ?_ ?_ _ | refine St.Sub.keep ?_ ?_ | refine St.WF.leave ?_ _ | refine St.WF.add ?_ _ | refine St.WF.set ?_ ?_ _ | refine St.WF.grow ?_ _ _ _ | refine St.WF.keep ?_ ?_ | (first | omega | (simp only [RowOk.lo, nx]; first | done | omega)))) ?_ ?_ ?_ ?_; (exact (by first | (simp (disch := first | decide | omega | (simp only [nx]; first | done | omega)) only [go_sem, Nat.reduceMul]; done) | (simp (disch := first | decide | omega | (simp only [nx]; first | done | omega)) only [go_sem, Nat.reduceMul]; exact (hwE d hd)))); (exact (by first | (simp (disch := first | decide | omega | (simp only [nx]; first | done | omega)) only [go_sem, Nat.reduceMul]; done) | (simp (disch := first | decide | omega | (simp only [nx]; first | done | omega)) only [go_sem, Nat.reduceMul]; exact ((by rw [List.mem_singleton] at hd; subst hd; rfl))))); (exact ((by rcases hmb with h1 | h1; exact .inl h1; exact .inr (by rw [h1]; simp only [List.length_cons, List.length_map, List.length_append, htk])))))
          · simp only [List.length_cons, List.length_map, List.length_append, htk, List.length_nil]; omega
          · simp only [List.length_cons, List.length_map, List.length_append, htk, List.length_nil]; simp (disch := first | decide | omega | (simp only [nx]; first | done | omega)) only [go_sem, Nat.reduceMul]; omega
          (simp (disch := first | decide | omega | (simp only [nx]; first | done | omega)) only [go_sem, Nat.reduceMul, q3b, q7b, b1b, q5b, q6b, w1b]; (repeat (with_reducible refine And.intro (by first | omega | assumption | rfl) ?_)))
          (refine ⟨by omega, _, _, RowNext.grow (m := mb) ?_ ?_ hrb hnb ?_ (St.Sub.refl _), ?_⟩; (exact (by (repeat' first | assumption | refine St.WF.leave ?_ _ | refine St.WF.add ?_ _ | refine St.WF.set ?_ ?_ _ | refine St.WF.grow ?_ _ _ _ | refine St.WF.keep ?_ ?_ | (first | omega | (simp only [RowOk.lo, nx]; first | done | omega))))); (exact (by (first | omega | (simp only [RowOk.lo, nx]; first | done | omega)))); (exact (by (repeat' first | assumption | exact St.Sub.refl _ | exact RowOk.sub (by assumption) (by assumption) | refine St.Sub.trans ?_ (RowOk.sub (by assumption) (by assumption)) | refine St.Sub.add ?_ ?_ _ | refine St.Sub.set ?_ ?_ ?_ _ | refine St.Sub.keep ?_ ?_ | refine St.WF.leave ?_ _ | refine St.WF.add ?_ _ | refine St.WF.set ?_ ?_ _ | refine St.WF.grow ?_ _ _ _ | refine St.WF.keep ?_ ?_ | (first | omega | (simp only [RowOk.lo, nx]; first | done | omega))))); refine ⟨by omega, ?_, ?_, ?_⟩; all_goals (try (first | (simp (disch := first | decide | omega | (simp only [nx]; first | done | omega)) only [go_sem, Nat.reduceMul, w1b]; first | done | rfl) | rfl)))
          · simp (disch := first | decide | omega | (simp only [nx]; first | done | omega)) only [go_sem, Nat.reduceMul]
            rw [List.take_succ_eq_append_getElem hltb]
            simp only [List.map_append, List.map_cons, List.map_nil, List.append_assoc, List.cons_append, List.nil_append, encPs, encP, stepV, h5, if_false, getD_at hnm, strD, u64D]
          · exact .inr (by simp only [List.length_cons, List.length_map, List.length_append, htk, List.length_nil]; omega)
        · have b1b : decide ((ib : Int) < ((pathsV k v.parts[i]).length : Int)) = false := by simp; omega
          (simp (disch := first | decide | omega | (simp only [nx]; first | done | omega)) only [go_sem, Nat.reduceMul, q3b, q7b, b1b, q5b, q6b, q4b, w1]; (repeat (with_reducible refine And.intro (by first | omega | assumption | rfl) ?_)))
          have hib : ib = (pathsV k v.parts[i]).length := by omega
          (refine ⟨by omega, _, _, RowNext.inner (m := m) (m' := mb) hr hn ?_ hrb hnb ?_, ?_⟩; (exact (by (repeat' first | assumption | exact St.Sub.refl _ | exact RowOk.sub (by assumption) (by assumption) | refine St.Sub.trans ?_ (RowOk.sub (by assumption) (by assumption)) | refine St.Sub.add ?_ ?_ _ | refine St.Sub.set ?_ ?_ ?_ _ | refine St.Sub.keep ?_ ?_ | refine St.WF.leave ?_ _ | refine St.WF.add ?_ _ | refine St.WF.set ?_ ?_ _ | refine St.WF.grow ?_ _ _ _ | refine St.WF.keep ?_ ?_ | (first | omega | (simp only [RowOk.lo, nx]; first | done | omega))))); (exact (by (repeat' first | assumption | exact St.Sub.refl _ | exact RowOk.sub (by assumption) (by assumption) | refine St.Sub.trans ?_ (RowOk.sub (by assumption) (by assumption)) | refine St.Sub.add ?_ ?_ _ | refine St.Sub.set ?_ ?_ ?_ _ | refine St.Sub.keep ?_ ?_ | refine St.WF.leave ?_ _ | refine St.WF.add ?_ _ | refine St.WF.set ?_ ?_ _ | refine St.WF.grow ?_ _ _ _ | refine St.WF.keep ?_ ?_ | (first | omega | (simp only [RowOk.lo, nx]; first | done | omega))))); refine ⟨by omega, ?_, ?_, ?_⟩; all_goals (try (first | (simp (disch := first | decide | omega | (simp only [nx]; first | done | omega)) only [go_sem, Nat.reduceMul, w1]; first | done | rfl) | rfl)))
          · simp (disch := first | decide | omega | (simp only [nx]; first | done | omega)) only [go_sem, Nat.reduceMul, q3b]
            rw [restV_succ, getD_at hlt, hib, List.take_length]
          · rcases hmb with h1 | h1
            · exact .inl h1
            · exact .inr (by rw [restV_succ, getD_at hlt, h1, hib]; simp only [List.length_append, List.length_map])
    · have b1 : decide ((i : Int) < (v.parts.length : Int)) = false := by simp; omega
      have hro := fun {e m k} => rowOf_lt hr (e := e) (m := m) (k := k)
      (simp (disch := first | decide | omega | (simp only [nx]; first | done | omega)) only [go_sem, Nat.reduceMul, q3, q4, q1, b1, hro]; (repeat (with_reducible refine And.intro (by first | omega | assumption | rfl) ?_)))
      refine ⟨?_, (by (repeat' first | assumption | exact St.Sub.refl _ | exact RowOk.sub (by assumption) (by assumption) | refine St.Sub.trans ?_ (RowOk.sub (by assumption) (by assumption)) | refine St.Sub.add ?_ ?_ _ | refine St.Sub.set ?_ ?_ ?_ _ | refine St.Sub.keep ?_ ?_ | refine St.WF.leave ?_ _ | refine St.WF.add ?_ _ | refine St.WF.set ?_ ?_ _ | refine St.WF.grow ?_ _ _ _ | refine St.WF.keep ?_ ?_ | (first | omega | (simp only [RowOk.lo, nx]; first | done | omega))))⟩
      have hi : i = v.parts.length := by omega
      subst hi
      simp only [D.frz, frzL, frz_mapPs]
      rfl
end Go.Proofs.Ytjjhjhjphhpeiaa

namespace Go.Proofs.Ytjjhjhjphhpeiaa
open Go.RowKit
set_option linter.unusedSimpArgs false
theorem valsEq_step (a b : DStp) : valsEq [sv a.1, .int .u64 a.2] [sv b.1, .int .u64 b.2] = decide (a = b) := by
  obtain ⟨a, n⟩ := a
  obtain ⟨b, m⟩ := b
  rw [Bool.eq_iff_iff]
  simp only [valsEq, cellEq, sv, strB, Go.Lib.toList_data, Bool.and_eq_true, beq_iff_eq, decide_eq_true_eq, Prod.mk.injEq, and_true]
  constructor
  · rintro ⟨h1, h2⟩; exact ⟨h1, by omega⟩
  · rintro ⟨h1, h2⟩; exact ⟨h1, by omega⟩
theorem eqOk_step {x y : Operand} (a b : DStp) : EqOk Try.prog .eql 78 x y [sv a.1, .int .u64 a.2] [sv b.1, .int .u64 b.2] (valsEq [sv a.1, .int .u64 a.2] [sv b.1, .int .u64 b.2]) ∧ EqOk Try.prog .neq 78 x y [sv a.1, .int .u64 a.2] [sv b.1, .int .u64 b.2] (!valsEq [sv a.1, .int .u64 a.2] [sv b.1, .int .u64 b.2]) := by
  obtain ⟨a, n⟩ := a
  obtain ⟨b, m⟩ := b
  constructor
  · intro w
    by_cases h1 : a = b <;> by_cases h2 : (n : Int) = (m : Int) <;> simp [valsEq, cellEq, go_sem, h1, h2]
  · intro w
    by_cases h1 : a = b <;> by_cases h2 : (n : Int) = (m : Int) <;> simp [valsEq, cellEq, go_sem, h1, h2]
section
variable {x y : Operand} (a b : DStp) {K : D → Prop} {K' : D → St → Prop} {S : St}
theorem bin_neqP : dbin Try.prog .neq 78 x y (encP a) (encP b) = some (EqOk Try.prog .neq 78 x y [sv a.1, .int .u64 a.2] [sv b.1, .int .u64 b.2] (!valsEq [sv a.1, .int .u64 a.2] [sv b.1, .int .u64 b.2]), .v (.bool (!decide (a = b)))) := by
  rw [← valsEq_step]; rfl
theorem onVal_neqP : onVal (dbin Try.prog .neq 78 x y (encP a) (encP b)) K = K (.v (.bool (!decide (a = b)))) := by
  rw [bin_neqP, onVal_some]; exact propext ⟨fun h => h.2, fun h => ⟨(eqOk_step a b).2, h⟩⟩
theorem onValS_neqP : onValS (dbin Try.prog .neq 78 x y (encP a) (encP b)) K' S = K' (.v (.bool (!decide (a = b)))) S := by
  rw [bin_neqP, onValS_some]; exact propext ⟨fun h => h.2, fun h => ⟨(eqOk_step a b).2, h⟩⟩
end
attribute [go_sem] onVal_neqP onValS_neqP
set_option maxRecDepth 200000 in
set_option maxHeartbeats 8000000 in
theorem refSameP_d (own own2 : Own) (p q : List DStp) (hp : p.length ≤ 1000000) (hq : q.length ≤ 1000000) : DPure Try.prog 22 [.sl own (p.map encP), .sl own2 (q.map encP)] (.v (.bool (decide (p = q)))) := by
  refine dpure_of_dwp mixed Try.func22 rfl (fun _ _ => by kernel_rfl) (rs := [.tmp 4]) rfl (by kernel_rfl) trivial (fun S hS => ?_)
  by_cases hl : p.length = q.length
  · have b0 : ((p.length : Int) != (q.length : Int)) = false := by simp [hl]
    (simp (disch := first | decide | omega | (simp only [nx]; first | done | omega)) only [go_sem, Nat.reduceMul, b0]; (repeat (with_reducible refine And.intro (by first | omega | assumption | rfl) ?_)))
    (refine dloop_st (fun t => List.contains [4, 5, 11, 12, 13, 14, 15, 16, 17, 18, 19, 20, 21, 22, 23, 24, 25] t) (by kernel_rfl) ?_ (p.length) (fun i f => i ≤ p.length ∧ f 5 = .v (.int .i64 (i : Nat)) ∧ (∀ j, j < i → p[j]? = q[j]?)) ?_ ?_; (exact (by (repeat' first | assumption | refine St.WF.leave ?_ _ | refine St.WF.add ?_ _ | refine St.WF.set ?_ ?_ _ | refine St.WF.grow ?_ _ _ _ | refine St.WF.keep ?_ ?_ | (first | omega | (simp only [RowOk.lo, nx]; first | done | omega))))); (exact ⟨(by omega), (by (first | (simp (disch := first | decide | omega | (simp only [nx]; first | done | omega)) only [go_sem, Nat.reduceMul]; first | done | rfl) | rfl)), (fun j hj => by omega)⟩); intro i g tn hn hT hg hI; obtain ⟨le, q5, hsame⟩ := hI; have q0 := hg 0 rfl; have q1 := hg 1 rfl; simp (disch := first | decide | omega | (simp only [nx]; first | done | omega)) only [go_sem, Nat.reduceMul] at q0 q1; clear hg; have hn' := hn; try simp only [add_next, set_next, grow_next, leave_next, drop_next] at hn')
    by_cases hlt : i < p.length
    · have b1 : decide ((i : Int) < (p.length : Int)) = true := by simp; omega
      have w1 : IntKind.i64.wrap ((i : Int) + 1) = ((i + 1 : Nat) : Int) := IntWalk.i64_in _ ⟨by omega, by omega⟩
      have hlt2 : i < q.length := by omega
      (simp (disch := first | decide | omega | (simp only [nx]; first | done | omega)) only [go_sem, Nat.reduceMul, q0, q1, q5, b1]; (repeat (with_reducible refine And.intro (by first | omega | assumption | rfl) ?_)))
      refine ddraw_mk 9 (by kernel_rfl) ?_
      by_cases hx : p[i] = q[i]
      · have b2 : (!decide (p[i] = q[i])) = false := by simp [hx]
        (simp (disch := first | decide | omega | (simp only [nx]; first | done | omega)) only [go_sem, Nat.reduceMul, q0, q1, q5, b1, b2, w1]; (repeat (with_reducible refine And.intro (by first | omega | assumption | rfl) ?_)))
        (refine ⟨by omega, (by (repeat' first | assumption | exact St.Sub.refl _ | exact RowOk.sub (by assumption) (by assumption) | refine St.Sub.trans ?_ (RowOk.sub (by assumption) (by assumption)) | refine St.Sub.add ?_ ?_ _ | refine St.Sub.set ?_ ?_ ?_ _ | refine St.Sub.keep ?_ ?_ | refine St.WF.leave ?_ _ | refine St.WF.add ?_ _ | refine St.WF.set ?_ ?_ _ | refine St.WF.grow ?_ _ _ _ | refine St.WF.keep ?_ ?_ | (first | omega | (simp only [RowOk.lo, nx]; first | done | omega)))), ?_⟩; refine ⟨by omega, ?_, ?_⟩; all_goals (try (first | (simp (disch := first | decide | omega | (simp only [nx]; first | done | omega)) only [go_sem, Nat.reduceMul, w1]; first | done | rfl) | rfl)))
        intro j hj
        by_cases e : j = i
        · subst e; rw [List.getElem?_eq_getElem hlt, List.getElem?_eq_getElem hlt2, hx]
        · exact hsame j (by omega)
      · have b2 : (!decide (p[i] = q[i])) = true := by simp [hx]
        (simp (disch := first | decide | omega | (simp only [nx]; first | done | omega)) only [go_sem, Nat.reduceMul, q0, q1, q5, b1, b2]; (repeat (with_reducible refine And.intro (by first | omega | assumption | rfl) ?_)))
        refine ⟨?_, (by (repeat' first | assumption | exact St.Sub.refl _ | exact RowOk.sub (by assumption) (by assumption) | refine St.Sub.trans ?_ (RowOk.sub (by assumption) (by assumption)) | refine St.Sub.add ?_ ?_ _ | refine St.Sub.set ?_ ?_ ?_ _ | refine St.Sub.keep ?_ ?_ | refine St.WF.leave ?_ _ | refine St.WF.add ?_ _ | refine St.WF.set ?_ ?_ _ | refine St.WF.grow ?_ _ _ _ | refine St.WF.keep ?_ ?_ | (first | omega | (simp only [RowOk.lo, nx]; first | done | omega))))⟩
        rw [decide_eq_false]
        · rfl
        · intro e; subst e; exact hx rfl
    · have b1 : decide ((i : Int) < (p.length : Int)) = false := by simp; omega
      (simp (disch := first | decide | omega | (simp only [nx]; first | done | omega)) only [go_sem, Nat.reduceMul, q0, q1, q5, b1]; (repeat (with_reducible refine And.intro (by first | omega | assumption | rfl) ?_)))
      refine ⟨?_, (by (repeat' first | assumption | exact St.Sub.refl _ | exact RowOk.sub (by assumption) (by assumption) | refine St.Sub.trans ?_ (RowOk.sub (by assumption) (by assumption)) | refine St.Sub.add ?_ ?_ _ | refine St.Sub.set ?_ ?_ ?_ _ | refine St.Sub.keep ?_ ?_ | refine St.WF.leave ?_ _ | refine St.WF.add ?_ _ | refine St.WF.set ?_ ?_ _ | refine St.WF.grow ?_ _ _ _ | refine St.WF.keep ?_ ?_ | (first | omega | (simp only [RowOk.lo, nx]; first | done | omega))))⟩
      rw [decide_eq_true]
      · rfl
      · refine List.ext_getElem? fun j => ?_
        by_cases hj : j < i
        · exact hsame j hj
        · rw [List.getElem?_eq_none (by omega), List.getElem?_eq_none (by omega)]
  · have b0 : ((p.length : Int) != (q.length : Int)) = true := by simp; omega
    (simp (disch := first | decide | omega | (simp only [nx]; first | done | omega)) only [go_sem, Nat.reduceMul, b0]; (repeat (with_reducible refine And.intro (by first | omega | assumption | rfl) ?_)))
    refine ⟨?_, (by (repeat' first | assumption | exact St.Sub.refl _ | exact RowOk.sub (by assumption) (by assumption) | refine St.Sub.trans ?_ (RowOk.sub (by assumption) (by assumption)) | refine St.Sub.add ?_ ?_ _ | refine St.Sub.set ?_ ?_ ?_ _ | refine St.Sub.keep ?_ ?_ | refine St.WF.leave ?_ _ | refine St.WF.add ?_ _ | refine St.WF.set ?_ ?_ _ | refine St.WF.grow ?_ _ _ _ | refine St.WF.keep ?_ ?_ | (first | omega | (simp only [RowOk.lo, nx]; first | done | omega))))⟩
    rw [decide_eq_false]
    · rfl
    · intro e; subst e; exact hl rfl
theorem refSameV_d (a b : DVal) (hoa : okV a) (hob : okV b) : DPure Try.prog 14 [encV a, encV b] (.v (.bool (eqB a b))) :=
  dpure_of_gives (fun _ _ => by kernel_rfl) fun w η X vs hr => by
    simp only [RepL] at hr
    obtain ⟨x, xs, rfl, h1, y, ys, rfl, h2, rfl⟩ := hr
    obtain ⟨cs, rfl, hv⟩ := val_of_rep a.depth a (Nat.le_refl _) hoa h1
    obtain ⟨ds, rfl, hw⟩ := val_of_rep b.depth b (Nat.le_refl _) hob h2
    exact refValSame_calls a.depth a b cs ds w (Nat.le_refl _) hv hw
end Go.Proofs.Ytjjhjhjphhpeiaa

namespace Go.Proofs.Ytjjhjhjphhpeiaa
open Go.RowKit
set_option linter.unusedSimpArgs false
set_option linter.unusedVariables false
section
variable {P : Program} {t : TypeId} {x y : Operand}
theorem bin_or (k : IntKind) (a b : Int) : dbin P .or t x y (.v (.int k a)) (.v (.int k b)) = some (True, .v (.int k (bits .or k a b))) := by
  simp [dbin, eqGuard, binOp, intBits_or, pureRun_bind, pureRun_pure]
theorem bin_xor (k : IntKind) (a b : Int) : dbin P .xor t x y (.v (.int k a)) (.v (.int k b)) = some (True, .v (.int k (bits .xor k a b))) := by
  simp [dbin, eqGuard, binOp, intBits_xor, pureRun_bind, pureRun_pure]
theorem bin_andNot (k : IntKind) (a b : Int) : dbin P .andNot t x y (.v (.int k a)) (.v (.int k b)) = some (True, .v (.int k (bits .andNot k a b))) := by
  simp [dbin, eqGuard, binOp, intBits_andNot, pureRun_bind, pureRun_pure]
theorem bin_shr7 (a : Nat) : dbin P .shr t x y (.v (.int .u64 a)) (.v (.int .u64 7)) = some (True, .v (.int .u64 ((a / 128 : Nat) : Int))) := by
  simp [dbin, eqGuard, binOp, shift_shr .u64 .u64 (a : Int) 7 (by omega) (by decide), pureRun_bind, pureRun_pure]
theorem bin_shr63 (a : Int) : dbin P .shr t x y (.v (.int .i64 a)) (.v (.int .u64 63)) = some (True, .v (.int .i64 (a / 9223372036854775808))) := by
  simp [dbin, eqGuard, binOp, shift_shr .i64 .u64 a 63 (by omega) (by decide), pureRun_bind, pureRun_pure]
theorem bin_shl1 (a : Int) : dbin P .shl t x y (.v (.int .u64 a)) (.v (.int .u64 1)) = some (True, .v (.int .u64 (IntKind.u64.wrap (a * 2)))) := by
  simp [dbin, eqGuard, binOp, Op.shift, IntKind.bits, pureRun_bind, pureRun_pure]
end
theorem cv_u64u8 (n : Int) : pureRun Try.prog (convert 24 5 (.int .u64 n)) = some (.int .u8 (IntKind.u8.wrap n)) := by kernel_rfl
theorem cv_i64u64 (n : Int) : pureRun Try.prog (convert 3 24 (.int .i64 n)) = some (.int .u64 (IntKind.u64.wrap n)) := by kernel_rfl
theorem cv_u64i64 (n : Int) : pureRun Try.prog (convert 24 3 (.int .u64 n)) = some (.int .i64 (IntKind.i64.wrap n)) := by kernel_rfl
theorem cv_u8u64 (n : Int) : pureRun Try.prog (convert 5 24 (.int .u8 n)) = some (.int .u64 (IntKind.u64.wrap n)) := by kernel_rfl
theorem cv_i64u8 (n : Int) : pureRun Try.prog (convert 3 5 (.int .i64 n)) = some (.int .u8 (IntKind.u8.wrap n)) := by kernel_rfl
theorem u8T_u8 : u8T Try.prog 5 = true := by kernel_rfl
attribute [go_sem] u8T_u8
attribute [go_sem] bin_or bin_xor bin_andNot bin_shr7 bin_shr63 bin_shl1 cv_u64u8 cv_i64u64 cv_u64i64 cv_u8u64 cv_i64u8
end Go.Proofs.Ytjjhjhjphhpeiaa

namespace Go.Proofs.Ytjjhjhjphhpeiaa
open Go.RowKit
set_option linter.unusedSimpArgs false
set_option linter.unusedVariables false
section
variable {P : Program} {f : Fm} {S : St}
theorem pfin_ret3 (t u v : Tmp) (S' : St) (d : D) : DQ.pfin P [.tmp t, .tmp u, .tmp v] S d .ret f S' = PFin S S' (.tup [f t, f u, f v]) d := by
  simp [DQ.pfin, dresL, dres, onVal, one]
theorem pfin_normal3 (t u v : Tmp) (S' : St) (d : D) : DQ.pfin P [.tmp t, .tmp u, .tmp v] S d .normal f S' = PFin S S' (.tup [f t, f u, f v]) d := by
  simp [DQ.pfin, dresL, dres, onVal, one]
end
attribute [go_sem] pfin_ret3 pfin_normal3
end Go.Proofs.Ytjjhjhjphhpeiaa

namespace Go.Proofs.Ytjjhjhjphhpeiaa
open Go.RowKit
set_option linter.unusedSimpArgs false
set_option linter.unusedVariables false
section
variable {P : Program} {t : TypeId} {x : Operand}
theorem bin_nil_eql (c : Value) : dbin Try.prog .eql 57 x (.const c) (.v .nilIface) (.v .nilIface) = some (True, .v (.bool true)) := by cases x <;> kernel_rfl
theorem bin_nil_neq (c : Value) : dbin Try.prog .neq 57 x (.const c) (.v .nilIface) (.v .nilIface) = some (True, .v (.bool false)) := by cases x <;> kernel_rfl
end
attribute [go_sem] bin_nil_eql bin_nil_neq
end Go.Proofs.Ytjjhjhjphhpeiaa

namespace Go.Proofs.Ytjjhjhjphhpeiaa
open Go.RowKit
theorem getV_ok : ∀ (p : List DStp) {v u : DVal}, okV v → getV p v = some u → okV u
  | [], v, u, h, e => by injection e with e; exact e ▸ h
  | p :: ps, v, u, h, e => by
    rw [getV_cons] at e
    split at e
    · rename_i hin
      have hpl : plN v p < v.parts.length := by have := hin.1; have := hin.2; unfold plN; omega
      exact getV_ok ps (((okV_eq v).1 h).2.2.2.2.2.2.2.2 _ (by rw [getD_at hpl]; exact List.getElem_mem _)) e
    · cases e
end Go.Proofs.Ytjjhjhjphhpeiaa

namespace Go.Proofs.Ytjjhjhjphhpeiaa
open Go.RowKit
set_option linter.unusedSimpArgs false
set_option linter.unusedVariables false
instance : Inhabited DOp := ⟨⟨0, [], 0, 0, default⟩⟩
end Go.Proofs.Ytjjhjhjphhpeiaa

namespace Go.Proofs.Ytjjhjhjphhpeiaa
open Go.RowKit
set_option linter.unusedSimpArgs false
attribute [go_sem] sv_beq
set_option maxRecDepth 200000 in
set_option maxHeartbeats 4000000 in
theorem refWholeV_d (v : DVal) : DPure Try.prog 34 [encV v] (.v (.bool (wholeB v))) := by
  refine dpure_of_dwp mixed Try.func34 rfl (fun _ _ => by kernel_rfl) (rs := [.tmp 2]) rfl (by kernel_rfl) trivial (fun S hS => ?_)
  by_cases h5 : v.kind = 5
  · have b5 : (v.kind == 5) = true := by simp [h5]
    (simp (disch := first | decide | omega | (simp only [nx]; first | done | omega)) only [go_sem, Nat.reduceMul, encV_eq v, b5]; (repeat (with_reducible refine And.intro (by first | omega | assumption | rfl) ?_)))
    refine ⟨?_, (by (repeat' first | assumption | exact St.Sub.refl _ | exact RowOk.sub (by assumption) (by assumption) | refine St.Sub.trans ?_ (RowOk.sub (by assumption) (by assumption)) | refine St.Sub.add ?_ ?_ _ | refine St.Sub.set ?_ ?_ ?_ _ | refine St.Sub.keep ?_ ?_ | refine St.WF.leave ?_ _ | refine St.WF.add ?_ _ | refine St.WF.set ?_ ?_ _ | refine St.WF.grow ?_ _ _ _ | refine St.WF.keep ?_ ?_ | (first | omega | (simp only [RowOk.lo, nx]; first | done | omega))))⟩
    simp only [D.frz, wholeB, decide_eq_true h5, Bool.true_and]
    congr 3
    exact propext ⟨fun h => by omega, fun h => by omega⟩
  · have b5 : (v.kind == 5) = false := by simp [h5]
    (simp (disch := first | decide | omega | (simp only [nx]; first | done | omega)) only [go_sem, Nat.reduceMul, encV_eq v, b5]; (repeat (with_reducible refine And.intro (by first | omega | assumption | rfl) ?_)))
    refine ⟨?_, (by (repeat' first | assumption | exact St.Sub.refl _ | exact RowOk.sub (by assumption) (by assumption) | refine St.Sub.trans ?_ (RowOk.sub (by assumption) (by assumption)) | refine St.Sub.add ?_ ?_ _ | refine St.Sub.set ?_ ?_ ?_ _ | refine St.Sub.keep ?_ ?_ | refine St.WF.leave ?_ _ | refine St.WF.add ?_ _ | refine St.WF.set ?_ ?_ _ | refine St.WF.grow ?_ _ _ _ | refine St.WF.keep ?_ ?_ | (first | omega | (simp only [RowOk.lo, nx]; first | done | omega))))⟩
    simp only [D.frz, wholeB, decide_eq_false h5, Bool.false_and]
set_option maxRecDepth 200000 in
set_option maxHeartbeats 4000000 in
theorem refFieldI_d (v : DVal) (x : Str) (hw : v.weight ≤ 1000000) : DPure Try.prog 35 [encV v, .v (sv x)] (.v (.int .i64 (ixI v.names x))) := by
  have hww := v.weight_eq
  refine dpure_of_dwp mixed Try.func35 rfl (fun _ _ => by kernel_rfl) (rs := [.tmp 4]) rfl (by kernel_rfl) trivial (fun S hS => ?_)
  (simp (disch := first | decide | omega | (simp only [nx]; first | done | omega)) only [go_sem, Nat.reduceMul, encV_eq v]; (repeat (with_reducible refine And.intro (by first | omega | assumption | rfl) ?_)))
  (refine dloop_st (fun t => List.contains [4, 5, 6, 7, 8, 9, 10, 11, 12, 13, 14, 15, 16, 17, 18, 19, 20] t) (by kernel_rfl) ?_ (v.names.length) (fun i f => i ≤ v.names.length ∧ f 5 = .v (.int .i64 (i : Nat)) ∧ (∀ j (hj : j < v.names.length), j < i → v.names[j] ≠ x)) ?_ ?_; (exact (by (repeat' first | assumption | refine St.WF.leave ?_ _ | refine St.WF.add ?_ _ | refine St.WF.set ?_ ?_ _ | refine St.WF.grow ?_ _ _ _ | refine St.WF.keep ?_ ?_ | (first | omega | (simp only [RowOk.lo, nx]; first | done | omega))))); (exact ⟨(by omega), (by (first | (simp (disch := first | decide | omega | (simp only [nx]; first | done | omega)) only [go_sem, Nat.reduceMul]; first | done | rfl) | rfl)), (fun j _ hj => by omega)⟩); intro i g tn hn hT hg hI; obtain ⟨le, q5, hno⟩ := hI; have q1 := hg 1 rfl; have q2 := hg 2 rfl; simp (disch := first | decide | omega | (simp only [nx]; first | done | omega)) only [go_sem, Nat.reduceMul] at q1 q2; clear hg; have hn' := hn; try simp only [add_next, set_next, grow_next, leave_next, drop_next] at hn')
  by_cases hlt : i < v.names.length
  · have b1 : decide ((i : Int) < (v.names.length : Int)) = true := by simp; omega
    have w1 : IntKind.i64.wrap ((i : Int) + 1) = ((i + 1 : Nat) : Int) := IntWalk.i64_in _ ⟨by omega, by omega⟩
    by_cases hx : v.names[i] = x
    · have b2 : (v.names[i] == x) = true := by simp [hx]
      (simp (disch := first | decide | omega | (simp only [nx]; first | done | omega)) only [go_sem, Nat.reduceMul, q1, q2, q5, b1, b2]; (repeat (with_reducible refine And.intro (by first | omega | assumption | rfl) ?_)))
      refine ⟨?_, (by (repeat' first | assumption | exact St.Sub.refl _ | exact RowOk.sub (by assumption) (by assumption) | refine St.Sub.trans ?_ (RowOk.sub (by assumption) (by assumption)) | refine St.Sub.add ?_ ?_ _ | refine St.Sub.set ?_ ?_ ?_ _ | refine St.Sub.keep ?_ ?_ | refine St.WF.leave ?_ _ | refine St.WF.add ?_ _ | refine St.WF.set ?_ ?_ _ | refine St.WF.grow ?_ _ _ _ | refine St.WF.keep ?_ ?_ | (first | omega | (simp only [RowOk.lo, nx]; first | done | omega))))⟩
      rw [ixI_first hlt hx fun j hj => hno j (by omega) hj]
      rfl
    · have b2 : (v.names[i] == x) = false := by simp [hx]
      (simp (disch := first | decide | omega | (simp only [nx]; first | done | omega)) only [go_sem, Nat.reduceMul, q1, q2, q5, b1, b2, w1]; (repeat (with_reducible refine And.intro (by first | omega | assumption | rfl) ?_)))
      (refine ⟨by omega, (by (repeat' first | assumption | exact St.Sub.refl _ | exact RowOk.sub (by assumption) (by assumption) | refine St.Sub.trans ?_ (RowOk.sub (by assumption) (by assumption)) | refine St.Sub.add ?_ ?_ _ | refine St.Sub.set ?_ ?_ ?_ _ | refine St.Sub.keep ?_ ?_ | refine St.WF.leave ?_ _ | refine St.WF.add ?_ _ | refine St.WF.set ?_ ?_ _ | refine St.WF.grow ?_ _ _ _ | refine St.WF.keep ?_ ?_ | (first | omega | (simp only [RowOk.lo, nx]; first | done | omega)))), ?_⟩; refine ⟨by omega, ?_, ?_⟩; all_goals (try (first | (simp (disch := first | decide | omega | (simp only [nx]; first | done | omega)) only [go_sem, Nat.reduceMul, w1]; first | done | rfl) | rfl)))
      intro j hj hji
      by_cases e : j = i
      · subst e; exact hx
      · exact hno j hj (by omega)
  · have b1 : decide ((i : Int) < (v.names.length : Int)) = false := by simp; omega
    (simp (disch := first | decide | omega | (simp only [nx]; first | done | omega)) only [go_sem, Nat.reduceMul, q1, q2, q5, b1]; (repeat (with_reducible refine And.intro (by first | omega | assumption | rfl) ?_)))
    refine ⟨?_, (by (repeat' first | assumption | exact St.Sub.refl _ | exact RowOk.sub (by assumption) (by assumption) | refine St.Sub.trans ?_ (RowOk.sub (by assumption) (by assumption)) | refine St.Sub.add ?_ ?_ _ | refine St.Sub.set ?_ ?_ ?_ _ | refine St.Sub.keep ?_ ?_ | refine St.WF.leave ?_ _ | refine St.WF.add ?_ _ | refine St.WF.set ?_ ?_ _ | refine St.WF.grow ?_ _ _ _ | refine St.WF.keep ?_ ?_ | (first | omega | (simp only [RowOk.lo, nx]; first | done | omega))))⟩
    rw [ixI_none fun j hj => hno j hj (by omega)]
    rfl
/-- The place of an element, or -1. -/
def elemI (v : DVal) (x : Nat) : Int := if v.kind = 6 then ixI v.ids x else -1
set_option maxRecDepth 200000 in
set_option maxHeartbeats 4000000 in
theorem refElem_d (v : DVal) (x : Nat) (hw : v.weight ≤ 1000000) : DPure Try.prog 13 [encV v, .v (uv x)] (.v (.int .i64 (elemI v x))) := by
  have hww := v.weight_eq
  refine dpure_of_dwp mixed Try.func13 rfl (fun _ _ => by kernel_rfl) (rs := [.tmp 4]) rfl (by kernel_rfl) trivial (fun S hS => ?_)
  (simp (disch := first | decide | omega | (simp only [nx]; first | done | omega)) only [go_sem, Nat.reduceMul, encV_eq v]; (repeat (with_reducible refine And.intro (by first | omega | assumption | rfl) ?_)))
  by_cases h6 : v.kind = 6
  · have b6 : (v.kind == 6) = true := by simp [h6]
    (refine dloop_st (fun t => List.contains [4, 5, 6, 7, 8, 9, 10, 11, 12, 13, 14, 15, 16, 17, 18, 19, 20, 21, 22, 23, 24, 25] t) (by kernel_rfl) ?_ (v.ids.length) (fun i f => i ≤ v.ids.length ∧ f 5 = .v (.int .i64 (i : Nat)) ∧ (∀ j (hj : j < v.ids.length), j < i → v.ids[j] ≠ x)) ?_ ?_; (exact (by (repeat' first | assumption | refine St.WF.leave ?_ _ | refine St.WF.add ?_ _ | refine St.WF.set ?_ ?_ _ | refine St.WF.grow ?_ _ _ _ | refine St.WF.keep ?_ ?_ | (first | omega | (simp only [RowOk.lo, nx]; first | done | omega))))); (exact ⟨(by omega), (by (first | (simp (disch := first | decide | omega | (simp only [nx]; first | done | omega)) only [go_sem, Nat.reduceMul]; first | done | rfl) | rfl)), (fun j _ hj => by omega)⟩); intro i g tn hn hT hg hI; obtain ⟨le, q5, hno⟩ := hI; have q1 := hg 1 rfl; have q2 := hg 2 rfl; simp (disch := first | decide | omega | (simp only [nx]; first | done | omega)) only [go_sem, Nat.reduceMul] at q1 q2; clear hg; have hn' := hn; try simp only [add_next, set_next, grow_next, leave_next, drop_next] at hn')
    by_cases hlt : i < v.ids.length
    · have b1 : decide ((i : Int) < (v.ids.length : Int)) = true := by simp; omega
      have w1 : IntKind.i64.wrap ((i : Int) + 1) = ((i + 1 : Nat) : Int) := IntWalk.i64_in _ ⟨by omega, by omega⟩
      by_cases hx : v.ids[i] = x
      · have b2 : ((v.ids[i] : Int) == (x : Int)) = true := by simp [hx]
        (simp (disch := first | decide | omega | (simp only [nx]; first | done | omega)) only [go_sem, Nat.reduceMul, q1, q2, q5, b1, b6, b2, u64D, uv]; (repeat (with_reducible refine And.intro (by first | omega | assumption | rfl) ?_)))
        refine ⟨?_, (by (repeat' first | assumption | exact St.Sub.refl _ | exact RowOk.sub (by assumption) (by assumption) | refine St.Sub.trans ?_ (RowOk.sub (by assumption) (by assumption)) | refine St.Sub.add ?_ ?_ _ | refine St.Sub.set ?_ ?_ ?_ _ | refine St.Sub.keep ?_ ?_ | refine St.WF.leave ?_ _ | refine St.WF.add ?_ _ | refine St.WF.set ?_ ?_ _ | refine St.WF.grow ?_ _ _ _ | refine St.WF.keep ?_ ?_ | (first | omega | (simp only [RowOk.lo, nx]; first | done | omega))))⟩
        rw [elemI, if_pos h6, ixI_first hlt hx fun j hj => hno j (by omega) hj]
        rfl
      · have b2 : ((v.ids[i] : Int) == (x : Int)) = false := by simp; omega
        (simp (disch := first | decide | omega | (simp only [nx]; first | done | omega)) only [go_sem, Nat.reduceMul, q1, q2, q5, b1, b6, b2, w1, u64D, uv]; (repeat (with_reducible refine And.intro (by first | omega | assumption | rfl) ?_)))
        (refine ⟨by omega, (by (repeat' first | assumption | exact St.Sub.refl _ | exact RowOk.sub (by assumption) (by assumption) | refine St.Sub.trans ?_ (RowOk.sub (by assumption) (by assumption)) | refine St.Sub.add ?_ ?_ _ | refine St.Sub.set ?_ ?_ ?_ _ | refine St.Sub.keep ?_ ?_ | refine St.WF.leave ?_ _ | refine St.WF.add ?_ _ | refine St.WF.set ?_ ?_ _ | refine St.WF.grow ?_ _ _ _ | refine St.WF.keep ?_ ?_ | (first | omega | (simp only [RowOk.lo, nx]; first | done | omega)))), ?_⟩; refine ⟨by omega, ?_, ?_⟩; all_goals (try (first | (simp (disch := first | decide | omega | (simp only [nx]; first | done | omega)) only [go_sem, Nat.reduceMul, w1]; first | done | rfl) | rfl)))
        intro j hj hji
        by_cases e : j = i
        · subst e; exact hx
        · exact hno j hj (by omega)
    · have b1 : decide ((i : Int) < (v.ids.length : Int)) = false := by simp; omega
      (simp (disch := first | decide | omega | (simp only [nx]; first | done | omega)) only [go_sem, Nat.reduceMul, q1, q2, q5, b1]; (repeat (with_reducible refine And.intro (by first | omega | assumption | rfl) ?_)))
      refine ⟨?_, (by (repeat' first | assumption | exact St.Sub.refl _ | exact RowOk.sub (by assumption) (by assumption) | refine St.Sub.trans ?_ (RowOk.sub (by assumption) (by assumption)) | refine St.Sub.add ?_ ?_ _ | refine St.Sub.set ?_ ?_ ?_ _ | refine St.Sub.keep ?_ ?_ | refine St.WF.leave ?_ _ | refine St.WF.add ?_ _ | refine St.WF.set ?_ ?_ _ | refine St.WF.grow ?_ _ _ _ | refine St.WF.keep ?_ ?_ | (first | omega | (simp only [RowOk.lo, nx]; first | done | omega))))⟩
      rw [elemI, if_pos h6, ixI_none fun j hj => hno j hj (by omega)]
      rfl
  · have b6 : (v.kind == 6) = false := by simp [h6]
    (refine dloop_st (fun t => List.contains [4, 5, 6, 7, 8, 9, 10, 11, 12, 13, 14, 15, 16, 17, 18, 19, 20, 21, 22, 23, 24, 25] t) (by kernel_rfl) ?_ (v.ids.length) (fun i f => i ≤ v.ids.length ∧ f 5 = .v (.int .i64 (i : Nat))) ?_ ?_; (exact (by (repeat' first | assumption | refine St.WF.leave ?_ _ | refine St.WF.add ?_ _ | refine St.WF.set ?_ ?_ _ | refine St.WF.grow ?_ _ _ _ | refine St.WF.keep ?_ ?_ | (first | omega | (simp only [RowOk.lo, nx]; first | done | omega))))); (exact ⟨(by omega), (by (first | (simp (disch := first | decide | omega | (simp only [nx]; first | done | omega)) only [go_sem, Nat.reduceMul]; first | done | rfl) | rfl))⟩); intro i g tn hn hT hg hI; obtain ⟨le, q5⟩ := hI; have q1 := hg 1 rfl; have q2 := hg 2 rfl; simp (disch := first | decide | omega | (simp only [nx]; first | done | omega)) only [go_sem, Nat.reduceMul] at q1 q2; clear hg; have hn' := hn; try simp only [add_next, set_next, grow_next, leave_next, drop_next] at hn')
    by_cases hlt : i < v.ids.length
    · have b1 : decide ((i : Int) < (v.ids.length : Int)) = true := by simp; omega
      (simp (disch := first | decide | omega | (simp only [nx]; first | done | omega)) only [go_sem, Nat.reduceMul, q1, q2, q5, b1, b6]; (repeat (with_reducible refine And.intro (by first | omega | assumption | rfl) ?_)))
      refine ⟨?_, (by (repeat' first | assumption | exact St.Sub.refl _ | exact RowOk.sub (by assumption) (by assumption) | refine St.Sub.trans ?_ (RowOk.sub (by assumption) (by assumption)) | refine St.Sub.add ?_ ?_ _ | refine St.Sub.set ?_ ?_ ?_ _ | refine St.Sub.keep ?_ ?_ | refine St.WF.leave ?_ _ | refine St.WF.add ?_ _ | refine St.WF.set ?_ ?_ _ | refine St.WF.grow ?_ _ _ _ | refine St.WF.keep ?_ ?_ | (first | omega | (simp only [RowOk.lo, nx]; first | done | omega))))⟩
      rw [elemI, if_neg h6]
      rfl
    · have b1 : decide ((i : Int) < (v.ids.length : Int)) = false := by simp; omega
      (simp (disch := first | decide | omega | (simp only [nx]; first | done | omega)) only [go_sem, Nat.reduceMul, q1, q2, q5, b1]; (repeat (with_reducible refine And.intro (by first | omega | assumption | rfl) ?_)))
      refine ⟨?_, (by (repeat' first | assumption | exact St.Sub.refl _ | exact RowOk.sub (by assumption) (by assumption) | refine St.Sub.trans ?_ (RowOk.sub (by assumption) (by assumption)) | refine St.Sub.add ?_ ?_ _ | refine St.Sub.set ?_ ?_ ?_ _ | refine St.Sub.keep ?_ ?_ | refine St.WF.leave ?_ _ | refine St.WF.add ?_ _ | refine St.WF.set ?_ ?_ _ | refine St.WF.grow ?_ _ _ _ | refine St.WF.keep ?_ ?_ | (first | omega | (simp only [RowOk.lo, nx]; first | done | omega))))⟩
      rw [elemI, if_neg h6]
      rfl
set_option maxRecDepth 200000 in
set_option maxHeartbeats 4000000 in
theorem refFieldV_d (v : DVal) (x : Str) (hw : v.weight ≤ 1000000) : DPure Try.prog 72 [encV v, .v (sv x)] (fieldV v x) := by
  refine dpure_of_dwp mixed Try.func72 rfl (fun _ _ => by kernel_rfl) (rs := [.cell 4 28, .tmp 5]) rfl (by kernel_rfl) (fieldV_closed v x) (fun S hS => ?_)
  (simp (disch := first | decide | omega | (simp only [nx]; first | done | omega)) only [go_sem, Nat.reduceMul]; (repeat (with_reducible refine And.intro (by first | omega | assumption | rfl) ?_)))
  refine DCalls.of_pure (refFieldI_d v x hw) ?_
  (simp (disch := first | decide | omega | (simp only [nx]; first | done | omega)) only [go_sem, Nat.reduceMul]; (repeat (with_reducible refine And.intro (by first | omega | assumption | rfl) ?_)))
  refine DCalls.of_pure (refWholeV_d v) ?_
  cases hwb : wholeB v with
  | true =>
    by_cases hm : x ∈ v.names
    · have hlt := ix_lt hm
      have hpl : ixN v.names x < v.parts.length := by
        simp only [wholeB, Bool.and_eq_true, decide_eq_true_eq] at hwb
        omega
      have hi : ixI v.names x = (ixN v.names x : Int) := by unfold ixI; rw [if_pos hm]
      have b8 : decide ((ixN v.names x : Int) < 0) = false := by simp
      (simp (disch := first | decide | omega | (simp only [nx]; first | done | omega)) only [go_sem, Nat.reduceMul, hi, b8]; (repeat (with_reducible refine And.intro (by first | omega | assumption | rfl) ?_)))
      refine ⟨?_, (by (repeat' first | assumption | exact St.Sub.refl _ | exact RowOk.sub (by assumption) (by assumption) | refine St.Sub.trans ?_ (RowOk.sub (by assumption) (by assumption)) | refine St.Sub.add ?_ ?_ _ | refine St.Sub.set ?_ ?_ ?_ _ | refine St.Sub.keep ?_ ?_ | refine St.WF.leave ?_ _ | refine St.WF.add ?_ _ | refine St.WF.set ?_ ?_ _ | refine St.WF.grow ?_ _ _ _ | refine St.WF.keep ?_ ?_ | (first | omega | (simp only [RowOk.lo, nx]; first | done | omega))))⟩
      simp only [D.frz, frzL, frz_encV, fieldV, hwb, hm, and_self, if_true, getD_at hpl]
    · have b7 : decide (ixI v.names x < 0) = true := by unfold ixI; rw [if_neg hm]; decide
      (simp (disch := first | decide | omega | (simp only [nx]; first | done | omega)) only [go_sem, Nat.reduceMul, b7]; (repeat (with_reducible refine And.intro (by first | omega | assumption | rfl) ?_)))
      refine ⟨?_, (by (repeat' first | assumption | exact St.Sub.refl _ | exact RowOk.sub (by assumption) (by assumption) | refine St.Sub.trans ?_ (RowOk.sub (by assumption) (by assumption)) | refine St.Sub.add ?_ ?_ _ | refine St.Sub.set ?_ ?_ ?_ _ | refine St.Sub.keep ?_ ?_ | refine St.WF.leave ?_ _ | refine St.WF.add ?_ _ | refine St.WF.set ?_ ?_ _ | refine St.WF.grow ?_ _ _ _ | refine St.WF.keep ?_ ?_ | (first | omega | (simp only [RowOk.lo, nx]; first | done | omega))))⟩
      simp only [D.frz, frzL, fieldV, hm, and_false, if_false]
      rfl
  | false =>
    (simp (disch := first | decide | omega | (simp only [nx]; first | done | omega)) only [go_sem, Nat.reduceMul]; (repeat (with_reducible refine And.intro (by first | omega | assumption | rfl) ?_)))
    refine ⟨?_, (by (repeat' first | assumption | exact St.Sub.refl _ | exact RowOk.sub (by assumption) (by assumption) | refine St.Sub.trans ?_ (RowOk.sub (by assumption) (by assumption)) | refine St.Sub.add ?_ ?_ _ | refine St.Sub.set ?_ ?_ ?_ _ | refine St.Sub.keep ?_ ?_ | refine St.WF.leave ?_ _ | refine St.WF.add ?_ _ | refine St.WF.set ?_ ?_ _ | refine St.WF.grow ?_ _ _ _ | refine St.WF.keep ?_ ?_ | (first | omega | (simp only [RowOk.lo, nx]; first | done | omega))))⟩
    simp only [D.frz, frzL, fieldV, hwb, Bool.false_eq_true, false_and, if_false]
    rfl
end Go.Proofs.Ytjjhjhjphhpeiaa

namespace Go.Proofs.Ytjjhjhjphhpeiaa
open Go.RowKit
set_option linter.unusedSimpArgs false
set_option linter.unusedVariables false
theorem getV_app : ∀ (p q : List DStp) (v : DVal), getV (p ++ q) v = (getV p v).bind (getV q)
  | [], q, v => rfl
  | p :: ps, q, v => by
    rw [List.cons_append, getV_cons, getV_cons]
    split
    · exact getV_app ps q _
    · rfl
def stepG (v : DVal) (p : DStp) : Option DVal := getV [p] v
theorem stepG_eq (v : DVal) (p : DStp) : stepG v p = if inP v p then some (v.parts.getD (plN v p) default) else none := by
  rw [stepG, getV_cons]; rfl
def getA (ps : List DStp) (v : DVal) (i : Nat) : DVal := (getV (ps.take i) v).getD zeroV
theorem getA_succ {ps : List DStp} {v : DVal} {i : Nat} (hi : i < ps.length) (h : (getV (ps.take i) v).isSome = true) : getV (ps.take (i + 1)) v = stepG (getA ps v i) ps[i] := by
  rw [List.take_succ_eq_append_getElem hi, getV_app]
  obtain ⟨t, ht⟩ := Option.isSome_iff_exists.1 h
  rw [getA, ht]; rfl
theorem getV_none {ps : List DStp} {v : DVal} {i : Nat} (h : getV (ps.take i) v = none) : getV ps v = none := by
  have := getV_app (ps.take i) (ps.drop i) v
  rw [List.take_append_drop] at this
  rw [this, h]; rfl
theorem getV_wt : ∀ (p : List DStp) {v u : DVal}, getV p v = some u → u.weight ≤ v.weight
  | [], v, u, h => by injection h with h; subst h; exact Nat.le_refl _
  | p :: ps, v, u, h => by
    rw [getV_cons] at h
    split at h
    · rename_i hin
      have hpl : plN v p < v.parts.length := by have := hin.1; have := hin.2; unfold plN; omega
      rw [getD_at hpl] at h
      have h1 := getV_wt ps h
      have h2 := DVal.weight_part (List.getElem_mem hpl)
      omega
    · cases h
theorem stepG_name {v : DVal} {p : DStp} (h : p.1 ≠ []) : fieldV v p.1 = .tup [encV ((stepG v p).getD zeroV), .v (.bool (stepG v p).isSome)] := by
  rw [stepG_eq]
  unfold fieldV
  have hpo : placeOf v p = if wholeB v = true ∧ p.1 ∈ v.names then (ixN v.names p.1 : Int) else -1 := by unfold placeOf; rw [if_neg h]
  by_cases hc : wholeB v = true ∧ p.1 ∈ v.names
  · rw [if_pos hc] at hpo
    have hlt := ix_lt hc.2
    have hpl : ixN v.names p.1 < v.parts.length := by
      have := hc.1
      simp only [wholeB, Bool.and_eq_true, decide_eq_true_eq] at this
      omega
    have hin : inP v p := ⟨by rw [hpo]; omega, by rw [hpo]; omega⟩
    have hpn : plN v p = ixN v.names p.1 := by unfold plN; rw [hpo]; simp
    rw [if_pos hc, if_pos hin, hpn]; rfl
  · rw [if_neg hc] at hpo
    have hin : ¬ inP v p := fun h => by have := h.1; rw [hpo] at this; omega
    rw [if_neg hc, if_neg hin]; rfl
theorem stepG_id {v : DVal} {p : DStp} (h : p.1 = []) : placeOf v p = elemI v p.2 := by
  unfold placeOf elemI ixI
  rw [if_pos h]
  by_cases h6 : v.kind = 6
  · rw [if_pos h6]
    by_cases hm : p.2 ∈ v.ids
    · rw [if_pos ⟨h6, hm⟩, if_pos hm]
    · rw [if_neg (fun h => hm h.2), if_neg hm]
  · rw [if_neg (fun h => h6 h.1), if_neg h6]
theorem getD_frz (v : DVal) (b : Bool) : (D.tup [encV v, .v (.bool b)]).frz = .tup [encV v, .v (.bool b)] := by simp only [D.frz, frzL, frz_encV]
set_option maxRecDepth 200000 in
set_option maxHeartbeats 8000000 in
theorem refGet_d (v : DVal) (ps : List DStp) (own : Own) (hok : okV v) (hw : v.weight ≤ 1000000) (hl : ps.length ≤ 1000000) : DPure Try.prog 45 [encV v, .sl own (ps.map encP)] (getD_ v ps) := by
  refine dpure_of_dwp mixed Try.func45 rfl (fun _ _ => by kernel_rfl) (rs := [.cell 4 28, .tmp 5]) rfl (by kernel_rfl) (closed_res _ _) (fun S hS => ?_)
  (simp (disch := first | decide | omega | (simp only [nx]; first | done | omega)) only [go_sem, Nat.reduceMul]; (repeat (with_reducible refine And.intro (by first | omega | assumption | rfl) ?_)))
  (refine dloop_var (fun t => List.contains [5, 6, 7, 8, 9, 10, 11, 12, 13, 14, 15, 16, 17, 18, 19, 20, 21, 22, 23, 24, 25, 26, 27, 28, 29, 30, 31, 32, 33, 34, 35, 36, 37, 38, 39, 40, 41, 42, 43, 44, 45, 46, 47, 48, 49, 50, 51, 52, 53, 54, 55, 56, 57] t) (by kernel_rfl) ?_ (ps.length) (S.next) (fun i => .box 28 (encV (getA ps v i)).cells) ?_ (fun i f => i ≤ ps.length ∧ f 6 = .v (.int .i64 (i : Nat)) ∧ ((getV (ps.take i) v).isSome = true)) ?_ ?_; (exact (by (repeat' first | assumption | refine St.WF.leave ?_ _ | refine St.WF.add ?_ _ | refine St.WF.set ?_ ?_ _ | refine St.WF.grow ?_ _ _ _ | refine St.WF.keep ?_ ?_ | (first | omega | (simp only [RowOk.lo, nx]; first | done | omega))))); (exact (by (first | (simp (disch := first | decide | omega | (simp only [nx]; first | done | omega)) only [go_sem, Nat.reduceMul]; first | done | rfl) | rfl))); (exact ⟨(by omega), (by (first | (simp (disch := first | decide | omega | (simp only [nx]; first | done | omega)) only [go_sem, Nat.reduceMul]; first | done | rfl) | rfl)), (rfl)⟩); intro i g tn hn hT hg hI; obtain ⟨le, q6, hs⟩ := hI; have q1 := hg 1 rfl; have q2 := hg 2 rfl; have q4 := hg 4 rfl; simp (disch := first | decide | omega | (simp only [nx]; first | done | omega)) only [go_sem, Nat.reduceMul] at q1 q2 q4; clear hg; have hn' := hn; try simp only [add_next, set_next, grow_next, leave_next, drop_next] at hn')
  obtain ⟨t, ht⟩ := Option.isSome_iff_exists.1 hs
  have hta : getA ps v i = t := by rw [getA, ht]; rfl
  have hnx0 := fun h => getA_succ (i := i) (ps := ps) (v := v) h hs
  have hto := getV_ok _ hok ht
  have htw := getV_wt _ ht
  rw [hta] at hnx0 hT
  rw [hta]
  by_cases hlt : i < ps.length
  · have b1 : decide ((i : Int) < (ps.length : Int)) = true := by simp; omega
    have w1 : IntKind.i64.wrap ((i : Int) + 1) = ((i + 1 : Nat) : Int) := IntWalk.i64_in _ ⟨by omega, by omega⟩
    have hnx := hnx0 hlt
    have hsn : S.next < tn := by omega
    have hsn1 : S.next + 1 < tn := by omega
    by_cases h0 : ps[i].1 = []
    · have b2 : (!(ps[i].1 == [])) = false := by simp [h0]
      (simp (disch := first | decide | omega | (simp only [nx]; first | done | omega)) only [go_sem, Nat.reduceMul, q1, q2, q4, q6, b1, b2]; (repeat (with_reducible refine And.intro (by first | omega | assumption | rfl) ?_)))
      refine ddraw_mk 8 (by kernel_rfl) ?_
      (simp (disch := first | decide | omega | (simp only [nx]; first | done | omega)) only [go_sem, Nat.reduceMul, q1, q2, q4, q6]; (repeat (with_reducible refine And.intro (by first | omega | assumption | rfl) ?_)))
      refine dqgo_mk (refElem_d t ps[i].2 (by omega)) ?_
      have hpo := stepG_id (v := t) h0
      by_cases hin : inP t ps[i]
      · have hpl : plN t ps[i] < t.parts.length := by have := hin.1; have := hin.2; unfold plN; omega
        have he : elemI t ps[i].2 = ((plN t ps[i] : Nat) : Int) := by rw [← hpo]; unfold plN; have := hin.1; omega
        have b3 : decide (((plN t ps[i] : Nat) : Int) < 0) = false := by simp
        have b4 : decide ((t.parts.length : Int) ≤ ((plN t ps[i] : Nat) : Int)) = false := by simp; omega
        have g1 := getD_map encV t.parts _ hpl
        have hs1 : getV (ps.take (i + 1)) v = some t.parts[plN t ps[i]] := by rw [hnx, stepG_eq, if_pos hin, getD_at hpl]
        have hta1 : getA ps v (i + 1) = t.parts[plN t ps[i]] := by rw [getA, hs1]; rfl
        (simp (disch := first | decide | omega | (simp only [nx]; first | done | omega)) only [go_sem, Nat.reduceMul, q1, q2, q4, q6, he, b3, b4, g1, w1]; (repeat (with_reducible refine And.intro (by first | omega | assumption | rfl) ?_)))
        (refine ⟨by omega, St.Sub.upd hn (by simp only [hta1]) (by (repeat' first | assumption | exact St.Sub.refl _ | exact RowOk.sub (by assumption) (by assumption) | refine St.Sub.trans ?_ (RowOk.sub (by assumption) (by assumption)) | refine St.Sub.add ?_ ?_ _ | refine St.Sub.set ?_ ?_ ?_ _ | refine St.Sub.keep ?_ ?_ | refine St.WF.leave ?_ _ | refine St.WF.add ?_ _ | refine St.WF.set ?_ ?_ _ | refine St.WF.grow ?_ _ _ _ | refine St.WF.keep ?_ ?_ | (first | omega | (simp only [RowOk.lo, nx]; first | done | omega)))), ?_⟩; refine ⟨by omega, ?_, ?_⟩; all_goals (try (first | (simp (disch := first | decide | omega | (simp only [nx]; first | done | omega)) only [go_sem, Nat.reduceMul, w1]; first | done | rfl) | rfl)))
        rw [hs1]; rfl
      · have hn : getV ps v = none := getV_none (i := i + 1) (by rw [hnx, stepG_eq, if_neg hin])
        have b34 : decide (elemI t ps[i].2 < 0) = true ∨ (decide (elemI t ps[i].2 < 0) = false ∧ decide ((t.parts.length : Int) ≤ elemI t ps[i].2) = true) := by
          rw [← hpo]
          by_cases hneg : placeOf t ps[i] < 0
          · exact .inl (decide_eq_true hneg)
          · exact .inr ⟨decide_eq_false hneg, decide_eq_true (by
              by_cases hc : (t.parts.length : Int) ≤ placeOf t ps[i]
              · exact hc
              · exact absurd ⟨by omega, by omega⟩ hin)⟩
        rcases b34 with b3 | ⟨b3, b4⟩
        · (simp (disch := first | decide | omega | (simp only [nx]; first | done | omega)) only [go_sem, Nat.reduceMul, q1, q2, q4, q6, b3]; (repeat (with_reducible refine And.intro (by first | omega | assumption | rfl) ?_)))
          refine ⟨?_, (by (repeat' first | assumption | exact St.Sub.refl _ | exact RowOk.sub (by assumption) (by assumption) | refine St.Sub.trans ?_ (RowOk.sub (by assumption) (by assumption)) | refine St.Sub.add ?_ ?_ _ | refine St.Sub.set ?_ ?_ ?_ _ | refine St.Sub.keep ?_ ?_ | refine St.WF.leave ?_ _ | refine St.WF.add ?_ _ | refine St.WF.set ?_ ?_ _ | refine St.WF.grow ?_ _ _ _ | refine St.WF.keep ?_ ?_ | (first | omega | (simp only [RowOk.lo, nx]; first | done | omega))))⟩
          rw [getD_, hn]; rfl
        · (simp (disch := first | decide | omega | (simp only [nx]; first | done | omega)) only [go_sem, Nat.reduceMul, q1, q2, q4, q6, b3, b4]; (repeat (with_reducible refine And.intro (by first | omega | assumption | rfl) ?_)))
          refine ⟨?_, (by (repeat' first | assumption | exact St.Sub.refl _ | exact RowOk.sub (by assumption) (by assumption) | refine St.Sub.trans ?_ (RowOk.sub (by assumption) (by assumption)) | refine St.Sub.add ?_ ?_ _ | refine St.Sub.set ?_ ?_ ?_ _ | refine St.Sub.keep ?_ ?_ | refine St.WF.leave ?_ _ | refine St.WF.add ?_ _ | refine St.WF.set ?_ ?_ _ | refine St.WF.grow ?_ _ _ _ | refine St.WF.keep ?_ ?_ | (first | omega | (simp only [RowOk.lo, nx]; first | done | omega))))⟩
          rw [getD_, hn]; rfl
    · have b2 : (!(ps[i].1 == [])) = true := by simp [h0]
      (simp (disch := first | decide | omega | (simp only [nx]; first | done | omega)) only [go_sem, Nat.reduceMul, q1, q2, q4, q6, b1, b2]; (repeat (with_reducible refine And.intro (by first | omega | assumption | rfl) ?_)))
      have hfe := stepG_name (v := t) h0
      cases hst : stepG t ps[i] with
      | none =>
        rw [hst] at hfe
        have hn : getV ps v = none := getV_none (i := i + 1) (by rw [hnx, hst])
        (refine ddraw_any (fun S' => S'.ob S.next = some (.box 28 (encV t).cells)) 13 (by (first | (simp (disch := first | decide | omega | (simp only [nx]; first | done | omega)) only [go_sem, Nat.reduceMul, q1, q2, q6, hfe, Option.getD_none, Option.isSome_none]; first | done | rfl) | rfl)) (by kernel_rfl) ?_; refine s_take 0 rfl (by kernel_rfl) (by kernel_rfl) (v := ?v1) (fun S' hz => dquietR_of ?h1) <| s_take 1 rfl (by kernel_rfl) (by kernel_rfl) (v := ?v2) (fun S' hz => dquietR_of ?h2) <| s_take 2 rfl (by kernel_rfl) (by kernel_rfl) (v := ?v3) (fun S' hz => dquietR_of ?h3) <| s_take 3 rfl (by kernel_rfl) (by kernel_rfl) (v := ?v4) (fun S' hz => dquietR_of ?h4) <| s_take 4 rfl (by kernel_rfl) (by kernel_rfl) (v := ?v5) (fun S' hz => dquietR_of ?h5) <| s_take 5 rfl (by kernel_rfl) (by kernel_rfl) (v := ?v6) (fun S' hz => dquietR_of ?h6) <| ?k6; (case h1 | h2 | h3 | h4 | h5 | h6 => ((simp (disch := first | decide | omega | (simp only [nx]; first | done | omega)) only [go_sem, Nat.reduceMul, q1, q2, q6, hfe, Option.getD_none, Option.isSome_none, hz]; (repeat (with_reducible refine And.intro (by first | omega | assumption | rfl) ?_))); first | done | exact rfl | omega)); refine s_take 6 rfl (by kernel_rfl) (by kernel_rfl) (v := ?v7) (fun S' hz => dquietR_of ?h7) ?k7; (case h7 => ((simp (disch := first | decide | omega | (simp only [nx]; first | done | omega)) only [go_sem, Nat.reduceMul, q1, q2, q6, hfe, Option.getD_none, Option.isSome_none, hz]; (repeat (with_reducible refine And.intro (by first | omega | assumption | rfl) ?_))); refine dqgo_mk (refFieldV_d t ps[i].1 (by omega)) ?_; exact rfl)); refine s_take 7 rfl (by kernel_rfl) (by kernel_rfl) (v := ?v8) (fun S' hz => dquietR_of ?h8) <| s_take 8 rfl (by kernel_rfl) (by kernel_rfl) (v := ?v9) (fun S' hz => dquietR_of ?h9) <| s_take 9 rfl (by kernel_rfl) (by kernel_rfl) (v := ?v10) (fun S' hz => dquietR_of ?h10) <| ?k10; (case h8 | h9 | h10 => ((simp (disch := first | decide | omega | (simp only [nx]; first | done | omega)) only [go_sem, Nat.reduceMul, q1, q2, q6, hfe, Option.getD_none, Option.isSome_none, hz]; (repeat (with_reducible refine And.intro (by first | omega | assumption | rfl) ?_))); first | done | exact rfl | omega)); refine s_split [10] (by kernel_rfl) (by simp) ?_; intro j_ hj_; obtain rfl : j_ = 10 := (by simpa using hj_); clear hj_; refine s_op rfl ?_; (simp (disch := first | decide | omega | (simp only [nx]; first | done | omega)) only [go_sem, Nat.reduceMul, q1, q2, q6, hfe, Option.getD_none, Option.isSome_none]; (repeat (with_reducible refine And.intro (by first | omega | assumption | rfl) ?_))); refine s_split [11] (by kernel_rfl) (by simp) ?_; intro j_ hj_; obtain rfl : j_ = 11 := (by simpa using hj_); clear hj_; refine s_op rfl ?_; (simp (disch := first | decide | omega | (simp only [nx]; first | done | omega)) only [go_sem, Nat.reduceMul, q1, q2, q6, hfe, Option.getD_none, Option.isSome_none]; (repeat (with_reducible refine And.intro (by first | omega | assumption | rfl) ?_))); refine s_take 12 rfl (by kernel_rfl) (by kernel_rfl) (v := ?v11) (fun S' hz => dquietR_of ?h11) ?k11; (case h11 => ((simp (disch := first | decide | omega | (simp only [nx]; first | done | omega)) only [go_sem, Nat.reduceMul, q1, q2, q6, hfe, Option.getD_none, Option.isSome_none, hz]; (repeat (with_reducible refine And.intro (by first | omega | assumption | rfl) ?_))); first | done | exact rfl | omega)); refine s_done (by kernel_rfl) ?_; (simp (disch := first | decide | omega | (simp only [nx]; first | done | omega)) only [go_sem, Nat.reduceMul, q1, q2, q6, hfe, Option.getD_none, Option.isSome_none]; (repeat (with_reducible refine And.intro (by first | omega | assumption | rfl) ?_))))
        (simp (disch := first | decide | omega | (simp only [nx]; first | done | omega)) only [go_sem, Nat.reduceMul, q1, q2, q4, q6]; (repeat (with_reducible refine And.intro (by first | omega | assumption | rfl) ?_)))
        refine ⟨?_, (by (repeat' first | assumption | exact St.Sub.refl _ | exact RowOk.sub (by assumption) (by assumption) | refine St.Sub.trans ?_ (RowOk.sub (by assumption) (by assumption)) | refine St.Sub.add ?_ ?_ _ | refine St.Sub.set ?_ ?_ ?_ _ | refine St.Sub.keep ?_ ?_ | refine St.WF.leave ?_ _ | refine St.WF.add ?_ _ | refine St.WF.set ?_ ?_ _ | refine St.WF.grow ?_ _ _ _ | refine St.WF.keep ?_ ?_ | (first | omega | (simp only [RowOk.lo, nx]; first | done | omega))))⟩
        rw [getD_, hn]; rfl
      | some u =>
        rw [hst] at hfe
        have hs1 : getV (ps.take (i + 1)) v = some u := by rw [hnx, hst]
        have hta1 : getA ps v (i + 1) = u := by rw [getA, hs1]; rfl
        (refine ddraw_any (fun S' => S'.ob S.next = some (.box 28 (encV t).cells)) 13 (by (first | (simp (disch := first | decide | omega | (simp only [nx]; first | done | omega)) only [go_sem, Nat.reduceMul, q1, q2, q6, hfe, Option.getD_some, Option.isSome_some]; first | done | rfl) | rfl)) (by kernel_rfl) ?_; refine s_take 0 rfl (by kernel_rfl) (by kernel_rfl) (v := ?v12) (fun S' hz => dquietR_of ?h12) <| s_take 1 rfl (by kernel_rfl) (by kernel_rfl) (v := ?v13) (fun S' hz => dquietR_of ?h13) <| s_take 2 rfl (by kernel_rfl) (by kernel_rfl) (v := ?v14) (fun S' hz => dquietR_of ?h14) <| s_take 3 rfl (by kernel_rfl) (by kernel_rfl) (v := ?v15) (fun S' hz => dquietR_of ?h15) <| s_take 4 rfl (by kernel_rfl) (by kernel_rfl) (v := ?v16) (fun S' hz => dquietR_of ?h16) <| s_take 5 rfl (by kernel_rfl) (by kernel_rfl) (v := ?v17) (fun S' hz => dquietR_of ?h17) <| ?k17; (case h12 | h13 | h14 | h15 | h16 | h17 => ((simp (disch := first | decide | omega | (simp only [nx]; first | done | omega)) only [go_sem, Nat.reduceMul, q1, q2, q6, hfe, Option.getD_some, Option.isSome_some, hz]; (repeat (with_reducible refine And.intro (by first | omega | assumption | rfl) ?_))); first | done | exact rfl | omega)); refine s_take 6 rfl (by kernel_rfl) (by kernel_rfl) (v := ?v18) (fun S' hz => dquietR_of ?h18) ?k18; (case h18 => ((simp (disch := first | decide | omega | (simp only [nx]; first | done | omega)) only [go_sem, Nat.reduceMul, q1, q2, q6, hfe, Option.getD_some, Option.isSome_some, hz]; (repeat (with_reducible refine And.intro (by first | omega | assumption | rfl) ?_))); refine dqgo_mk (refFieldV_d t ps[i].1 (by omega)) ?_; exact rfl)); refine s_take 7 rfl (by kernel_rfl) (by kernel_rfl) (v := ?v19) (fun S' hz => dquietR_of ?h19) <| s_take 8 rfl (by kernel_rfl) (by kernel_rfl) (v := ?v20) (fun S' hz => dquietR_of ?h20) <| s_take 9 rfl (by kernel_rfl) (by kernel_rfl) (v := ?v21) (fun S' hz => dquietR_of ?h21) <| ?k21; (case h19 | h20 | h21 => ((simp (disch := first | decide | omega | (simp only [nx]; first | done | omega)) only [go_sem, Nat.reduceMul, q1, q2, q6, hfe, Option.getD_some, Option.isSome_some, hz]; (repeat (with_reducible refine And.intro (by first | omega | assumption | rfl) ?_))); first | done | exact rfl | omega)); refine s_split [10] (by kernel_rfl) (by simp) ?_; intro j_ hj_; obtain rfl : j_ = 10 := (by simpa using hj_); clear hj_; refine s_op rfl ?_; (simp (disch := first | decide | omega | (simp only [nx]; first | done | omega)) only [go_sem, Nat.reduceMul, q1, q2, q6, hfe, Option.getD_some, Option.isSome_some]; (repeat (with_reducible refine And.intro (by first | omega | assumption | rfl) ?_))); refine s_split [11] (by kernel_rfl) (by simp) ?_; intro j_ hj_; obtain rfl : j_ = 11 := (by simpa using hj_); clear hj_; refine s_op rfl ?_; (simp (disch := first | decide | omega | (simp only [nx]; first | done | omega)) only [go_sem, Nat.reduceMul, q1, q2, q6, hfe, Option.getD_some, Option.isSome_some]; (repeat (with_reducible refine And.intro (by first | omega | assumption | rfl) ?_))); refine s_take 12 rfl (by kernel_rfl) (by kernel_rfl) (v := ?v22) (fun S' hz => dquietR_of ?h22) ?k22; (case h22 => ((simp (disch := first | decide | omega | (simp only [nx]; first | done | omega)) only [go_sem, Nat.reduceMul, q1, q2, q6, hfe, Option.getD_some, Option.isSome_some, hz]; (repeat (with_reducible refine And.intro (by first | omega | assumption | rfl) ?_))); first | done | exact rfl | omega)); refine s_done (by kernel_rfl) ?_; (simp (disch := first | decide | omega | (simp only [nx]; first | done | omega)) only [go_sem, Nat.reduceMul, q1, q2, q6, hfe, Option.getD_some, Option.isSome_some]; (repeat (with_reducible refine And.intro (by first | omega | assumption | rfl) ?_))))
        (simp (disch := first | decide | omega | (simp only [nx]; first | done | omega)) only [go_sem, Nat.reduceMul, q1, q2, q4, q6, w1]; (repeat (with_reducible refine And.intro (by first | omega | assumption | rfl) ?_)))
        (refine ⟨by omega, St.Sub.upd hn (by simp only [hta1]) (by (repeat' first | assumption | exact St.Sub.refl _ | exact RowOk.sub (by assumption) (by assumption) | refine St.Sub.trans ?_ (RowOk.sub (by assumption) (by assumption)) | refine St.Sub.add ?_ ?_ _ | refine St.Sub.set ?_ ?_ ?_ _ | refine St.Sub.keep ?_ ?_ | refine St.WF.leave ?_ _ | refine St.WF.add ?_ _ | refine St.WF.set ?_ ?_ _ | refine St.WF.grow ?_ _ _ _ | refine St.WF.keep ?_ ?_ | (first | omega | (simp only [RowOk.lo, nx]; first | done | omega)))), ?_⟩; refine ⟨by omega, ?_, ?_⟩; all_goals (try (first | (simp (disch := first | decide | omega | (simp only [nx]; first | done | omega)) only [go_sem, Nat.reduceMul, w1]; first | done | rfl) | rfl)))
        rw [hs1]; rfl
  · have b1 : decide ((i : Int) < (ps.length : Int)) = false := by simp; omega
    (simp (disch := first | decide | omega | (simp only [nx]; first | done | omega)) only [go_sem, Nat.reduceMul, q1, q2, q4, q6, b1]; (repeat (with_reducible refine And.intro (by first | omega | assumption | rfl) ?_)))
    refine ⟨?_, (by (repeat' first | assumption | exact St.Sub.refl _ | exact RowOk.sub (by assumption) (by assumption) | refine St.Sub.trans ?_ (RowOk.sub (by assumption) (by assumption)) | refine St.Sub.add ?_ ?_ _ | refine St.Sub.set ?_ ?_ ?_ _ | refine St.Sub.keep ?_ ?_ | refine St.WF.leave ?_ _ | refine St.WF.add ?_ _ | refine St.WF.set ?_ ?_ _ | refine St.WF.grow ?_ _ _ _ | refine St.WF.keep ?_ ?_ | (first | omega | (simp only [RowOk.lo, nx]; first | done | omega))))⟩
    rw [show ps.take i = ps from List.take_of_length_le (by omega)] at ht
    rw [getD_, ht, getD_frz]; rfl
end Go.Proofs.Ytjjhjhjphhpeiaa

namespace Go.Proofs.Ytjjhjhjphhpeiaa
open Go.RowKit
set_option linter.unusedSimpArgs false
set_option linter.unusedVariables false
theorem grow_hit {S : St} {own : Own} {e : TypeId} {n : Nat} : (S.grow own e n).ob S.next = some (.row e n) := by
  cases own <;> simp [St.grow, St.leave, St.add, St.drop]
theorem grow_skip {S : St} {own : Own} {e : TypeId} {n j : Nat} (h1 : j ≠ S.next) (h2 : ∀ g, own = .row g → j ≠ g) : (S.grow own e n).ob j = S.ob j := by
  cases own with
  | row g => simp [St.grow, St.leave, St.add, St.drop, h1, h2 g rfl]
  | no => simp [St.grow, St.leave, St.add, h1]
  | full => simp [St.grow, St.leave, St.add, h1]
/-- A slice's own row, from lo on. -/
def RowAt (lo : Nat) (own : Own) (n : Nat) (e : TypeId) (T : St) : Prop := (own = .full ∧ n = 0) ∨ ∃ g, own = .row g ∧ lo ≤ g ∧ T.ob g = some (.row e n)
/-- In T the variable o holds two slices of rows of their own. -/
structure Two (o lo : Nat) (e1 e2 : TypeId) (f : D → D → List D) (L1 L2 : List D) (o1 o2 : Own) (T : St) : Prop where
  box : T.ob o = some (.box 28 (f (.sl o1 L1) (.sl o2 L2)))
  r1 : RowAt lo o1 L1.length e1 T
  r2 : RowAt lo o2 L2.length e2 T
end Go.Proofs.Ytjjhjhjphhpeiaa

namespace Go.Proofs.Ytjjhjhjphhpeiaa
open Go.RowKit
set_option linter.unusedSimpArgs false
set_option linter.unusedVariables false
theorem dapp_more {P : Program} {S : St} {t ty e : TypeId} {own own2 : Own} {es es2 : List D} {K : D → St → Prop} (he : elT P t = some e) (hz : zeroT P e = true) (h : own = .full ∨ ∃ g, own = .row g ∧ S.ob g = some (.row e es.length)) (hw : ∀ d ∈ es, d.width = szOf P e) (hx : ∀ d ∈ es2, d.width = szOf P e)
    (hb : es.length + es2.length ≤ 140737488355328) (hb2 : (es.length + es2.length) * bytesOf P e ≤ 140737488355328) (k : K (.sl (.row S.next) (es ++ es2)) (S.grow own e (es.length + es2.length))) : dapp P S t t ty (.sl own es) (.sl own2 es2) K := by
  refine dapp_row ?_
  simp only [dappend, he, hz, true_and, Option.isSome_some]
  refine ⟨hw, hx, ?_, hb, hb2, k⟩
  rcases h with rfl | ⟨g, rfl, h⟩
  · trivial
  · exact h
end Go.Proofs.Ytjjhjhjphhpeiaa

namespace Go.Proofs.Ytjjhjhjphhpeiaa
open Go.RowKit
set_option linter.unusedSimpArgs false
set_option linter.unusedVariables false
set_option maxRecDepth 200000 in
set_option maxHeartbeats 4000000 in
theorem mval_set {S : St} {k : Nat} {l : List DOp} (own : Own) (p : List DStp) (a b : DVal) (hk : k < S.next) (h : MAt k l S) (hl : l.length ≤ 1000000) (hp : p.length ≤ 1000000) (hoa : okV a) (hob : okV b) (hwa : a.weight ≤ 1000000) (hw : b.weight ≤ 1000000) (h5 : a.kind ≠ 5) (h6 : a.kind ≠ 6) (hne : eqB a b = false) :
    DCalls Try.prog 55 [.loc k 0, .sl own (p.map encP), encV a, encV b] S fun d T => d = undefD ∧ MAt k (l ++ [⟨1, p, 0, 0, b⟩]) T ∧ MFr k S T := by
  refine dcalls_inline mixed Try.func55 rfl (fun _ _ => by kernel_rfl) (rs := []) rfl (by kernel_rfl) (fun hS => ?_)
  have b5 : (a.kind == 5) = false := by simp [h5]
  have b6 : (a.kind == 6) = false := by simp [h6]
  (simp (disch := first | decide | omega | (simp only [nx]; first | done | omega)) only [go_sem, Nat.reduceMul]; (repeat (with_reducible refine And.intro (by first | omega | assumption | rfl) ?_)))
  refine DCalls.of_pure (valSame_d a.depth a b (Nat.le_refl _) hwa hw) ?_
  rw [hne]
  (simp (disch := first | decide | omega | (simp only [nx]; first | done | omega)) only [go_sem, Nat.reduceMul, b5, b6]; (repeat (with_reducible refine And.intro (by first | omega | assumption | rfl) ?_)))
  refine DCalls.of_pure (copyV_d b.depth b (Nat.le_refl _) hw) ?_
  (simp (disch := first | decide | omega | (simp only [nx]; first | done | omega)) only [go_sem, Nat.reduceMul, b5, b6]; (repeat (with_reducible refine And.intro (by first | omega | assumption | rfl) ?_)))
  have hw2 := (hS.add (.box 28 (encV a).cells))
  have hkp : ∀ j o, S.ob j = some o → ((S.add (.box 28 (encV a).cells)).add (.box 28 (encV b).cells)).ob j = some o := fun j o e => keep_add hw2 _ j o (keep_add hS _ j o e)
  refine (add_w own ⟨1, p, 0, 0, b⟩ (by show k < S.next + 1 + 1; omega) (h.keep hkp) hl hp).mono ?_
  rintro _ T ⟨rfl, h1, h2⟩
  (simp (disch := first | decide | omega | (simp only [nx]; first | done | omega)) only [go_sem, Nat.reduceMul]; (repeat (with_reducible refine And.intro (by first | omega | assumption | rfl) ?_)))
  exact (MFr.of_keep (by show S.next ≤ S.next + 1 + 1; omega) hkp).trans h2
theorem closed_ops (l : List DOp) : (D.tup [.sl .no (l.map encO), .v .nilIface]).closed := by
  simp only [D.closed, D.all, allL, Own.all, and_true, true_and]
  refine allL_iff.2 fun d hd => ?_
  obtain ⟨o, _, rfl⟩ := List.mem_map.1 hd
  exact closed_encO o
set_option maxRecDepth 200000 in
set_option maxHeartbeats 4000000 in
theorem between_of (s : DSch) (a b : DVal) (l : List DOp) (hos : okS s) (hoa : okV a) (hob : okV b) (hr : rightS 5 s = true) (hfa : fitsTop a s = true) (hfb : fitsTop b s = true)
    (hval : ∀ S k, k < S.next → MAt k [] S → DCalls Try.prog 55 [.loc k 0, .sl .full [], encV a, encV b] S fun d T => d = undefD ∧ MAt k l T ∧ MFr k S T) :
    DPure Try.prog 29 [encS s, encV a, encV b] (.tup [.sl .no (l.map encO), .v .nilIface]) := by
  refine dpure_of_dwp mixed Try.func29 rfl (fun _ _ => by kernel_rfl) (rs := [.tmp 6, .tmp 7]) rfl (by kernel_rfl) (closed_ops l) (fun S hS => ?_)
  (simp (disch := first | decide | omega | (simp only [nx]; first | done | omega)) only [go_sem, Nat.reduceMul]; (repeat (with_reducible refine And.intro (by first | omega | assumption | rfl) ?_)))
  refine DCalls.of_pure (schRight_d s hos) ?_
  rw [hr]
  (simp (disch := first | decide | omega | (simp only [nx]; first | done | omega)) only [go_sem, Nat.reduceMul]; (repeat (with_reducible refine And.intro (by first | omega | assumption | rfl) ?_)))
  refine DCalls.of_pure (fitsTop_d a s hoa hos) ?_
  rw [hfa]
  (simp (disch := first | decide | omega | (simp only [nx]; first | done | omega)) only [go_sem, Nat.reduceMul]; (repeat (with_reducible refine And.intro (by first | omega | assumption | rfl) ?_)))
  refine DCalls.of_pure (fitsTop_d b s hob hos) ?_
  rw [hfb]
  (simp (disch := first | decide | omega | (simp only [nx]; first | done | omega)) only [go_sem, Nat.reduceMul]; (repeat (with_reducible refine And.intro (by first | omega | assumption | rfl) ?_)))
  refine (hval _ _ (by show _ < S.next + 1 + 1 + 1 + 1; omega) ⟨.full, by (first | (simp (disch := first | decide | omega | (simp only [nx]; first | done | omega)) only [go_sem, Nat.reduceMul]; first | done | rfl) | rfl), .inl ⟨rfl, rfl⟩⟩).mono ?_
  rintro _ T ⟨rfl, ⟨own, t1, t2⟩, hf⟩
  have hsub : S.Sub T := ⟨Nat.le_trans (by show S.next ≤ S.next + 1 + 1 + 1 + 1; omega) hf.next, fun j o e => hf.ob j o (.inl (by have := hS.lt e; omega)) (keep_add (((hS.add _).add _).add _) _ j o (keep_add ((hS.add _).add _) _ j o (keep_add (hS.add _) _ j o (keep_add hS _ j o e))))⟩
  (simp (disch := first | decide | omega | (simp only [nx]; first | done | omega)) only [go_sem, Nat.reduceMul, t1]; (repeat (with_reducible refine And.intro (by first | omega | assumption | rfl) ?_)))
  refine ⟨?_, hsub⟩
  simp only [D.frz, frzL, frz_mapO]
/-! The document's example. -/
def dcS : DSch := .mk 2 [] []
def dcA : DVal := .mk 2 2 [] [] [] []
def dcB : DVal := .mk 2 3 [] [] [] []
theorem ex_ok (n : Int) (h : I64 n) : okV (.mk 2 n [] [] [] []) := by
  rw [okV_eq]
  refine ⟨?_, h, by simp [DVal.s], by simp [DVal.names], by simp [DVal.names], by simp [DVal.ids], by simp [DVal.ids], by simp [DVal.parts], by simp [DVal.parts]⟩
  exact WalkArith.wf_i64 (by simp [DVal.kind])
set_option maxRecDepth 200000 in
set_option maxHeartbeats 4000000 in
theorem awake13_d : DPure Try.prog 16 [] (.v (.bool true)) := by
  have h2 := ex_ok 2 (WalkArith.wf_i64 (by omega))
  have h3 := ex_ok 3 (WalkArith.wf_i64 (by omega))
  have hs : okS dcS := by
    rw [okS_eq]
    exact ⟨WalkArith.wf_i64 (by simp [dcS, DSch.kind]), by simp [dcS, DSch.words], by simp [dcS, DSch.words], by simp [dcS, DSch.parts], by simp [dcS, DSch.parts]⟩
  have hb := between_of dcS dcA dcB [⟨1, [], 0, 0, dcB⟩] hs h2 h3 (by kernel_rfl) (by kernel_rfl) (by kernel_rfl) fun S k hk hm =>
    mval_set .full [] dcA dcB hk hm (by simp) (by simp) h2 h3 (by simp [dcA, DVal.weight_eq, DVal.names, DVal.ids, DVal.parts, DVal.weights]) (by simp [dcB, DVal.weight_eq, DVal.names, DVal.ids, DVal.parts, DVal.weights]) (by simp [dcA, DVal.kind]) (by simp [dcA, DVal.kind]) (Bool.eq_false_iff.2 fun h => by have := eqB_iff.1 h; simp [dcA, dcB] at this)
  refine dpure_of_dwp mixed Try.func16 rfl (fun _ _ => by kernel_rfl) (rs := [.tmp 0]) rfl (by kernel_rfl) trivial (fun S hS => ?_)
  (simp (disch := first | decide | omega | (simp only [nx]; first | done | omega)) only [go_sem, Nat.reduceMul]; (repeat (with_reducible refine And.intro (by first | omega | assumption | rfl) ?_)))
  refine DCalls.of_pure (DPure.weak hb (by simp only [frzL, D.frz, encV_eq, encS_eq]; rfl)) ?_
  have b11 : (((1 : Nat) : Int) == 1) = true := rfl
  (simp (disch := first | decide | omega | (simp only [nx]; first | done | omega)) only [go_sem, Nat.reduceMul, b11, cells_encO, opCs, gdV1, dcB, DVal.n]; (repeat (with_reducible refine And.intro (by first | omega | assumption | rfl) ?_)))
  refine ⟨?_, (by (repeat' first | assumption | exact St.Sub.refl _ | exact RowOk.sub (by assumption) (by assumption) | refine St.Sub.trans ?_ (RowOk.sub (by assumption) (by assumption)) | refine St.Sub.add ?_ ?_ _ | refine St.Sub.set ?_ ?_ ?_ _ | refine St.Sub.keep ?_ ?_ | refine St.WF.leave ?_ _ | refine St.WF.add ?_ _ | refine St.WF.set ?_ ?_ _ | refine St.WF.grow ?_ _ _ _ | refine St.WF.keep ?_ ?_ | (first | omega | (simp only [RowOk.lo, nx]; first | done | omega))))⟩
  rfl
end Go.Proofs.Ytjjhjhjphhpeiaa

namespace Go.Proofs.Ytjjhjhjphhpeiaa
open Go.RowKit
set_option linter.unusedSimpArgs false
set_option linter.unusedVariables false
def gA (v : DVal) (p : List DStp) : DVal := (getV p v).getD zeroV
/-- Is a part another one there? -/
noncomputable def dC (a b : DVal) (p : List DStp) : Bool := (getV p b).isSome && (decide ((gA a p).parts.length = 0) && (decide ((gA b p).parts.length = 0) && !eqB (gA a p) (gA b p)))
noncomputable def dpV (a b : DVal) : List (List DStp) := if rightV 5 a = true ∧ rightV 5 b = true then (allTop a).filter (dC a b) else []
theorem gA_ok {v : DVal} (h : okV v) (p : List DStp) : okV (gA v p) := by
  unfold gA
  cases hg : getV p v with
  | none => exact zeroV_ok
  | some u => exact getV_ok _ h hg
theorem gA_wt {v : DVal} (p : List DStp) : (gA v p).weight ≤ v.weight := by
  unfold gA
  cases hg : getV p v with
  | none => rw [DVal.weight_eq v]; show zeroV.weight ≤ _; have : zeroV.weight = 1 := by simp [zeroV, DVal.weight_eq, DVal.names, DVal.ids, DVal.parts, DVal.weights]
            omega
  | some u => exact getV_wt _ hg
theorem allTop_fine {v : DVal} : (allTop v).length ≤ v.weight ∧ ∀ p ∈ allTop v, p.length ≤ v.depth := by
  unfold allTop
  split
  · exact ⟨(pathsV_len v.depth v (Nat.le_refl _)).1, pathsV_bound v.depth v (Nat.le_refl _)⟩
  · exact ⟨Nat.zero_le _, fun p hp => by cases hp⟩
theorem len0 (n : Nat) : ((n : Int) == 0) = decide (n = 0) := by rw [Bool.eq_iff_iff]; simp
/-- The paths so far. -/
structure PRow (S T : St) (l : List (List DStp)) (d : D) : Prop where
  ex : ∃ own, d = .sl own (l.map encPs) ∧ (own = .full ∨ ∃ r, own = .row r ∧ S.next ≤ r ∧ T.ob r = some (.row 44 l.length))
theorem PRow.keep {S T X : St} {l : List (List DStp)} {d : D} (h : PRow S T l d) (hT : T.WF) (hx : ∀ j, j < T.next → X.ob j = T.ob j) : PRow S X l d := by
  obtain ⟨own, e, h⟩ := h.ex
  refine ⟨own, e, h.imp_right fun ⟨r, h1, h2, h3⟩ => ⟨r, h1, h2, ?_⟩⟩
  rw [hx _ (hT.lt h3)]; exact h3
set_option maxRecDepth 200000 in
set_option maxHeartbeats 8000000 in
theorem paths_d (a b : DVal) (ha : okV a) (hb : okV b) (wa : a.weight ≤ 100000) (wb : b.weight ≤ 100000) : DPure Try.prog 19 [encV a, encV b] (encPss (dpV a b)) := by
  refine dpure_of_dwp mixed Try.func19 rfl (fun _ _ => by kernel_rfl) (rs := [.tmp 4]) rfl (by kernel_rfl) (closed_encPss _) (fun S hS => ?_)
  (simp (disch := first | decide | omega | (simp only [nx]; first | done | omega)) only [go_sem, Nat.reduceMul]; (repeat (with_reducible refine And.intro (by first | omega | assumption | rfl) ?_)))
  refine DCalls.of_pure (valRight_d a ha) ?_
  cases hra : rightV 5 a with
  | false =>
    (simp (disch := first | decide | omega | (simp only [nx]; first | done | omega)) only [go_sem, Nat.reduceMul]; (repeat (with_reducible refine And.intro (by first | omega | assumption | rfl) ?_)))
    refine ⟨?_, (by (repeat' first | assumption | exact St.Sub.refl _ | exact RowOk.sub (by assumption) (by assumption) | refine St.Sub.trans ?_ (RowOk.sub (by assumption) (by assumption)) | refine St.Sub.add ?_ ?_ _ | refine St.Sub.set ?_ ?_ ?_ _ | refine St.Sub.keep ?_ ?_ | refine St.WF.leave ?_ _ | refine St.WF.add ?_ _ | refine St.WF.set ?_ ?_ _ | refine St.WF.grow ?_ _ _ _ | refine St.WF.keep ?_ ?_ | (first | omega | (simp only [RowOk.lo, nx]; first | done | omega))))⟩
    rw [dpV, if_neg (by rw [hra]; simp)]; rfl
  | true =>
  (simp (disch := first | decide | omega | (simp only [nx]; first | done | omega)) only [go_sem, Nat.reduceMul]; (repeat (with_reducible refine And.intro (by first | omega | assumption | rfl) ?_)))
  refine DCalls.of_pure (valRight_d b hb) ?_
  cases hrb : rightV 5 b with
  | false =>
    (simp (disch := first | decide | omega | (simp only [nx]; first | done | omega)) only [go_sem, Nat.reduceMul]; (repeat (with_reducible refine And.intro (by first | omega | assumption | rfl) ?_)))
    refine ⟨?_, (by (repeat' first | assumption | exact St.Sub.refl _ | exact RowOk.sub (by assumption) (by assumption) | refine St.Sub.trans ?_ (RowOk.sub (by assumption) (by assumption)) | refine St.Sub.add ?_ ?_ _ | refine St.Sub.set ?_ ?_ ?_ _ | refine St.Sub.keep ?_ ?_ | refine St.WF.leave ?_ _ | refine St.WF.add ?_ _ | refine St.WF.set ?_ ?_ _ | refine St.WF.grow ?_ _ _ _ | refine St.WF.keep ?_ ?_ | (first | omega | (simp only [RowOk.lo, nx]; first | done | omega))))⟩
    rw [dpV, if_neg (by rw [hrb]; simp)]; rfl
  | true =>
  have hdp : dpV a b = (allTop a).filter (dC a b) := by rw [dpV, if_pos ⟨hra, hrb⟩]
  (simp (disch := first | decide | omega | (simp only [nx]; first | done | omega)) only [go_sem, Nat.reduceMul]; (repeat (with_reducible refine And.intro (by first | omega | assumption | rfl) ?_)))
  refine DCalls.of_pure (allTop_d a ha (by omega)) ?_
  obtain ⟨hll, hpl⟩ := allTop_fine (v := a)
  have hda := DVal.depth_weight a.depth a (Nat.le_refl _)
  rw [hdp]
  generalize allTop a = l at *
  (simp (disch := first | decide | omega | (simp only [nx]; first | done | omega)) only [go_sem, Nat.reduceMul, encPss]; (repeat (with_reducible refine And.intro (by first | omega | assumption | rfl) ?_)))
  refine dloop_up (fun t => List.contains [5, 7, 8, 9, 10, 11, 23, 24, 25, 26, 27, 28, 29, 30, 31, 32, 33, 34, 35, 36, 37, 38, 39, 40, 41, 42, 43, 44, 45, 46, 47, 48, 49, 50, 51, 52, 53, 54, 55, 56, 57, 58, 59, 60, 61, 62] t) (by kernel_rfl) (by exact (by (repeat' first | assumption | refine St.WF.leave ?_ _ | refine St.WF.add ?_ _ | refine St.WF.set ?_ ?_ _ | refine St.WF.grow ?_ _ _ _ | refine St.WF.keep ?_ ?_ | (first | omega | (simp only [RowOk.lo, nx]; first | done | omega))))) l.length (fun i g T => i ≤ l.length ∧ g 23 = .v (.int .i64 ((i : Nat) : Int)) ∧ PRow S T ((l.take i).filter (dC a b)) (g 5) ∧ T.ob S.next = some (.box 28 (encV a).cells) ∧ T.ob (S.next + 1) = some (.box 28 (encV b).cells) ∧ S.next + 1 < T.next ∧ S.Sub T)
    ⟨by omega, by (first | (simp (disch := first | decide | omega | (simp only [nx]; first | done | omega)) only [go_sem, Nat.reduceMul]; first | done | rfl) | rfl), ⟨.full, by (first | (simp (disch := first | decide | omega | (simp only [nx]; first | done | omega)) only [go_sem, Nat.reduceMul]; first | done | rfl) | rfl), .inl rfl⟩, by (first | (simp (disch := first | decide | omega | (simp only [nx]; first | done | omega)) only [go_sem, Nat.reduceMul]; first | done | rfl) | rfl), by (first | (simp (disch := first | decide | omega | (simp only [nx]; first | done | omega)) only [go_sem, Nat.reduceMul]; first | done | rfl) | rfl), by simp only [nx]; omega, by exact (by (repeat' first | assumption | exact St.Sub.refl _ | exact RowOk.sub (by assumption) (by assumption) | refine St.Sub.trans ?_ (RowOk.sub (by assumption) (by assumption)) | refine St.Sub.add ?_ ?_ _ | refine St.Sub.set ?_ ?_ ?_ _ | refine St.Sub.keep ?_ ?_ | refine St.WF.leave ?_ _ | refine St.WF.add ?_ _ | refine St.WF.set ?_ ?_ _ | refine St.WF.grow ?_ _ _ _ | refine St.WF.keep ?_ ?_ | (first | omega | (simp only [RowOk.lo, nx]; first | done | omega))))⟩ ?_
  rintro i g T hT hg ⟨le, q23, hP, t2, t3, hn, hsub⟩
  (have q2 := hg 2 rfl; have q3 := hg 3 rfl; have q4 := hg 4 rfl; have q21 := hg 21 rfl; have q22 := hg 22 rfl; simp (disch := first | decide | omega | (simp only [nx]; first | done | omega)) only [go_sem, Nat.reduceMul] at q2 q3 q4 q21 q22; clear hg)
  by_cases hlt : i < l.length
  · have b1 : decide ((i : Int) < (l.length : Int)) = true := by simp; omega
    have w1 : IntKind.i64.wrap ((i : Int) + 1) = ((i + 1 : Nat) : Int) := IntWalk.i64_in _ ⟨by omega, by omega⟩
    have hpi := hpl _ (List.getElem_mem hlt)
    have hgd := getD_map encPs l i hlt
    (simp (disch := first | decide | omega | (simp only [nx]; first | done | omega)) only [go_sem, Nat.reduceMul, q2, q21, q22, q23, b1, hlt, t2, encPs]; (repeat (with_reducible refine And.intro (by first | omega | assumption | rfl) ?_)))
    refine DCalls.of_pure (get_d a l[i] .no ha (by omega) (by omega)) ?_
    (simp (disch := first | decide | omega | (simp only [nx]; first | done | omega)) only [go_sem, Nat.reduceMul, getD_, q3, t3]; (repeat (with_reducible refine And.intro (by first | omega | assumption | rfl) ?_)))
    refine DCalls.of_pure (get_d b l[i] .no hb (by omega) (by omega)) ?_
    have hsuc := List.take_succ_eq_append_getElem hlt
    have hx : (getV l[i] a).getD zeroV = gA a l[i] := rfl
    have hy : (getV l[i] b).getD zeroV = gA b l[i] := rfl
    have hxo := gA_ok ha l[i]
    have hyo := gA_ok hb l[i]
    have hxw := gA_wt (v := a) l[i]
    have hyw := gA_wt (v := b) l[i]
    have hdC : dC a b l[i] = ((getV l[i] b).isSome && (decide ((gA a l[i]).parts.length = 0) && (decide ((gA b l[i]).parts.length = 0) && !eqB (gA a l[i]) (gA b l[i])))) := rfl
    have hS1 := valSame_d (gA a l[i]).depth (gA a l[i]) (gA b l[i]) (Nat.le_refl _) (by omega) (by omega)
    cases h1 : (getV l[i] b).isSome with
    | false =>
      have hno : dC a b l[i] = false := by rw [hdC, h1]; rfl
      (simp (disch := first | decide | omega | (simp only [nx]; first | done | omega)) only [go_sem, Nat.reduceMul, getD_, hx, hy, h1, q23, w1]; (repeat (with_reducible refine And.intro (by first | omega | assumption | rfl) ?_)))
      
      refine ⟨by omega, _, fun _ _ h => h, by omega, by (first | (simp (disch := first | decide | omega | (simp only [nx]; first | done | omega)) only [go_sem, Nat.reduceMul, w1]; first | done | rfl) | rfl), ?_, by (first | (simp (disch := first | decide | omega | (simp only [nx]; first | done | omega)) only [go_sem, Nat.reduceMul, t2]; first | done | rfl) | rfl), by (first | (simp (disch := first | decide | omega | (simp only [nx]; first | done | omega)) only [go_sem, Nat.reduceMul, t3]; first | done | rfl) | rfl), by simp only [nx]; omega, by exact (by (repeat' first | assumption | exact St.Sub.refl _ | exact RowOk.sub (by assumption) (by assumption) | refine St.Sub.trans ?_ (RowOk.sub (by assumption) (by assumption)) | refine St.Sub.add ?_ ?_ _ | refine St.Sub.set ?_ ?_ ?_ _ | refine St.Sub.keep ?_ ?_ | refine St.WF.leave ?_ _ | refine St.WF.add ?_ _ | refine St.WF.set ?_ ?_ _ | refine St.WF.grow ?_ _ _ _ | refine St.WF.keep ?_ ?_ | (first | omega | (simp only [RowOk.lo, nx]; first | done | omega))))⟩
      rw [hsuc, List.filter_append, List.filter_cons_of_neg (by rw [hno]; simp), List.filter_nil, List.append_nil]
      refine PRow.keep (T := T) ?_ hT fun j hj => ?_
      · have e5 : g 5 = g 5 := rfl
        simp (disch := first | decide | omega | (simp only [nx]; first | done | omega)) only [go_sem, Nat.reduceMul]
        exact hP
      · have n1 : j ≠ T.next := by omega
        have n2 : j ≠ T.next + 1 := by omega
        simp (disch := first | decide | omega | (simp only [nx]; first | done | omega)) only [go_sem, Nat.reduceMul, n1, n2]

    | true =>
    cases h2 : decide ((gA a l[i]).parts.length = 0) with
    | false =>
      have hno : dC a b l[i] = false := by rw [hdC, h1, h2]; rfl
      (simp (disch := first | decide | omega | (simp only [nx]; first | done | omega)) only [go_sem, Nat.reduceMul, getD_, hx, hy, h1, len0, h2, q23, w1]; (repeat (with_reducible refine And.intro (by first | omega | assumption | rfl) ?_)))
      
      refine ⟨by omega, _, fun _ _ h => h, by omega, by (first | (simp (disch := first | decide | omega | (simp only [nx]; first | done | omega)) only [go_sem, Nat.reduceMul, w1]; first | done | rfl) | rfl), ?_, by (first | (simp (disch := first | decide | omega | (simp only [nx]; first | done | omega)) only [go_sem, Nat.reduceMul, t2]; first | done | rfl) | rfl), by (first | (simp (disch := first | decide | omega | (simp only [nx]; first | done | omega)) only [go_sem, Nat.reduceMul, t3]; first | done | rfl) | rfl), by simp only [nx]; omega, by exact (by (repeat' first | assumption | exact St.Sub.refl _ | exact RowOk.sub (by assumption) (by assumption) | refine St.Sub.trans ?_ (RowOk.sub (by assumption) (by assumption)) | refine St.Sub.add ?_ ?_ _ | refine St.Sub.set ?_ ?_ ?_ _ | refine St.Sub.keep ?_ ?_ | refine St.WF.leave ?_ _ | refine St.WF.add ?_ _ | refine St.WF.set ?_ ?_ _ | refine St.WF.grow ?_ _ _ _ | refine St.WF.keep ?_ ?_ | (first | omega | (simp only [RowOk.lo, nx]; first | done | omega))))⟩
      rw [hsuc, List.filter_append, List.filter_cons_of_neg (by rw [hno]; simp), List.filter_nil, List.append_nil]
      refine PRow.keep (T := T) ?_ hT fun j hj => ?_
      · have e5 : g 5 = g 5 := rfl
        simp (disch := first | decide | omega | (simp only [nx]; first | done | omega)) only [go_sem, Nat.reduceMul]
        exact hP
      · have n1 : j ≠ T.next := by omega
        have n2 : j ≠ T.next + 1 := by omega
        simp (disch := first | decide | omega | (simp only [nx]; first | done | omega)) only [go_sem, Nat.reduceMul, n1, n2]

    | true =>
    cases h3 : decide ((gA b l[i]).parts.length = 0) with
    | false =>
      have hno : dC a b l[i] = false := by rw [hdC, h1, h2, h3]; rfl
      (simp (disch := first | decide | omega | (simp only [nx]; first | done | omega)) only [go_sem, Nat.reduceMul, getD_, hx, hy, h1, len0, h2, h3, q23, w1]; (repeat (with_reducible refine And.intro (by first | omega | assumption | rfl) ?_)))
      
      refine ⟨by omega, _, fun _ _ h => h, by omega, by (first | (simp (disch := first | decide | omega | (simp only [nx]; first | done | omega)) only [go_sem, Nat.reduceMul, w1]; first | done | rfl) | rfl), ?_, by (first | (simp (disch := first | decide | omega | (simp only [nx]; first | done | omega)) only [go_sem, Nat.reduceMul, t2]; first | done | rfl) | rfl), by (first | (simp (disch := first | decide | omega | (simp only [nx]; first | done | omega)) only [go_sem, Nat.reduceMul, t3]; first | done | rfl) | rfl), by simp only [nx]; omega, by exact (by (repeat' first | assumption | exact St.Sub.refl _ | exact RowOk.sub (by assumption) (by assumption) | refine St.Sub.trans ?_ (RowOk.sub (by assumption) (by assumption)) | refine St.Sub.add ?_ ?_ _ | refine St.Sub.set ?_ ?_ ?_ _ | refine St.Sub.keep ?_ ?_ | refine St.WF.leave ?_ _ | refine St.WF.add ?_ _ | refine St.WF.set ?_ ?_ _ | refine St.WF.grow ?_ _ _ _ | refine St.WF.keep ?_ ?_ | (first | omega | (simp only [RowOk.lo, nx]; first | done | omega))))⟩
      rw [hsuc, List.filter_append, List.filter_cons_of_neg (by rw [hno]; simp), List.filter_nil, List.append_nil]
      refine PRow.keep (T := T) ?_ hT fun j hj => ?_
      · have e5 : g 5 = g 5 := rfl
        simp (disch := first | decide | omega | (simp only [nx]; first | done | omega)) only [go_sem, Nat.reduceMul]
        exact hP
      · have n1 : j ≠ T.next := by omega
        have n2 : j ≠ T.next + 1 := by omega
        simp (disch := first | decide | omega | (simp only [nx]; first | done | omega)) only [go_sem, Nat.reduceMul, n1, n2]

    | true =>
    (simp (disch := first | decide | omega | (simp only [nx]; first | done | omega)) only [go_sem, Nat.reduceMul, getD_, hx, hy, h1, len0, h2, h3]; (repeat (with_reducible refine And.intro (by first | omega | assumption | rfl) ?_)))
    refine DCalls.of_pure hS1 ?_
    cases h4 : eqB (gA a l[i]) (gA b l[i]) with
    | true =>
      have hno : dC a b l[i] = false := by rw [hdC, h1, h2, h3, h4]; rfl
      (simp (disch := first | decide | omega | (simp only [nx]; first | done | omega)) only [go_sem, Nat.reduceMul, q23, w1]; (repeat (with_reducible refine And.intro (by first | omega | assumption | rfl) ?_)))
      
      refine ⟨by omega, _, fun _ _ h => h, by omega, by (first | (simp (disch := first | decide | omega | (simp only [nx]; first | done | omega)) only [go_sem, Nat.reduceMul, w1]; first | done | rfl) | rfl), ?_, by (first | (simp (disch := first | decide | omega | (simp only [nx]; first | done | omega)) only [go_sem, Nat.reduceMul, t2]; first | done | rfl) | rfl), by (first | (simp (disch := first | decide | omega | (simp only [nx]; first | done | omega)) only [go_sem, Nat.reduceMul, t3]; first | done | rfl) | rfl), by simp only [nx]; omega, by exact (by (repeat' first | assumption | exact St.Sub.refl _ | exact RowOk.sub (by assumption) (by assumption) | refine St.Sub.trans ?_ (RowOk.sub (by assumption) (by assumption)) | refine St.Sub.add ?_ ?_ _ | refine St.Sub.set ?_ ?_ ?_ _ | refine St.Sub.keep ?_ ?_ | refine St.WF.leave ?_ _ | refine St.WF.add ?_ _ | refine St.WF.set ?_ ?_ _ | refine St.WF.grow ?_ _ _ _ | refine St.WF.keep ?_ ?_ | (first | omega | (simp only [RowOk.lo, nx]; first | done | omega))))⟩
      rw [hsuc, List.filter_append, List.filter_cons_of_neg (by rw [hno]; simp), List.filter_nil, List.append_nil]
      refine PRow.keep (T := T) ?_ hT fun j hj => ?_
      · have e5 : g 5 = g 5 := rfl
        simp (disch := first | decide | omega | (simp only [nx]; first | done | omega)) only [go_sem, Nat.reduceMul]
        exact hP
      · have n1 : j ≠ T.next := by omega
        have n2 : j ≠ T.next + 1 := by omega
        simp (disch := first | decide | omega | (simp only [nx]; first | done | omega)) only [go_sem, Nat.reduceMul, n1, n2]

    | false =>
      have hyes : dC a b l[i] = true := by rw [hdC, h1, h2, h3, h4]; rfl
      obtain ⟨own, q5, hrow⟩ := hP.ex
      (simp (disch := first | decide | omega | (simp only [nx]; first | done | omega)) only [go_sem, Nat.reduceMul, q5]; (repeat (with_reducible refine And.intro (by first | omega | assumption | rfl) ?_)))
      have heP : elT Try.prog 39 = some 44 := by kernel_rfl
      have hzP : szOf Try.prog 44 = 1 := by kernel_rfl
      have hbP : bytesOf Try.prog 44 = 24 := by kernel_rfl
      have wP : ∀ l : List (List DStp), ∀ d ∈ l.map encPs, d.width = szOf Try.prog 44 := fun l d hd => by obtain ⟨q, _, rfl⟩ := List.mem_map.1 hd; rw [hzP]; rfl
      have hfl := List.length_filter_le (dC a b) (l.take i)
      have htl : (l.take i).length ≤ l.length := by rw [List.length_take]; omega
      generalize hXe : St.set (St.add (St.set (St.add _ _) _ _) _) _ _ = X
      have xo : ∀ j, j < T.next → X.ob j = T.ob j := fun j hj => by
        have n1 : j ≠ T.next := by omega
        have n2 : j ≠ T.next + 1 := by omega
        rw [← hXe]; (first | (simp (disch := first | decide | omega | (simp only [nx]; first | done | omega)) only [go_sem, Nat.reduceMul, n1, n2]; first | done | rfl) | rfl)
      have xn : X.next = T.next + 2 := by rw [← hXe]; simp only [nx]
      have hX : X.WF := by rw [← hXe]; exact (by (repeat' first | assumption | refine St.WF.leave ?_ _ | refine St.WF.add ?_ _ | refine St.WF.set ?_ ?_ _ | refine St.WF.grow ?_ _ _ _ | refine St.WF.keep ?_ ?_ | (first | omega | (simp only [RowOk.lo, nx]; first | done | omega))))
      have xs : S.Sub X := by rw [← hXe]; exact (by (repeat' first | assumption | exact St.Sub.refl _ | exact RowOk.sub (by assumption) (by assumption) | refine St.Sub.trans ?_ (RowOk.sub (by assumption) (by assumption)) | refine St.Sub.add ?_ ?_ _ | refine St.Sub.set ?_ ?_ ?_ _ | refine St.Sub.keep ?_ ?_ | refine St.WF.leave ?_ _ | refine St.WF.add ?_ _ | refine St.WF.set ?_ ?_ _ | refine St.WF.grow ?_ _ _ _ | refine St.WF.keep ?_ ?_ | (first | omega | (simp only [RowOk.lo, nx]; first | done | omega))))
      clear hXe
      have hrowX : own = .full ∨ ∃ r, own = .row r ∧ S.next ≤ r ∧ r < T.next ∧ X.ob r = some (.row 44 ((l.take i).filter (dC a b)).length) := hrow.imp_right fun ⟨r, e1, e2, e3⟩ => ⟨r, e1, e2, hT.lt e3, by rw [xo _ (hT.lt e3)]; exact e3⟩
      have hne : ∀ j, j < T.next → (∃ t cs, X.ob j = some (.box t cs)) → ∀ g, own = .row g → j ≠ g := fun j hj ⟨t, cs, e⟩ g hg => by
        rcases hrowX with h | ⟨r, e1, _, _, e3⟩
        · rw [h] at hg; cases hg
        · rw [e1] at hg; injection hg with hg; subst hg
          rintro rfl; rw [e] at e3; cases e3
      have hlo : ∀ j, j < S.next → ∀ g, own = .row g → j ≠ g := fun j hj g hg => by
        rcases hrowX with h | ⟨r, e1, e2, _, _⟩
        · rw [h] at hg; cases hg
        · rw [e1] at hg; injection hg with hg; omega
      have x2 := (xo _ (by omega)).trans t2
      have x3 := (xo _ (by omega)).trans t3
      refine dapp_more heP (by kernel_rfl) (hrowX.imp_right fun ⟨r, e1, _, _, e3⟩ => ⟨r, e1, by rw [List.length_map]; exact e3⟩) (wP _) (fun d hd => by obtain rfl := List.mem_singleton.1 hd; rw [hzP]; rfl) (by simp only [List.length_map, List.length_cons, List.length_nil]; omega) (by simp only [hbP, List.length_map, List.length_cons, List.length_nil]; omega) ?_
      (simp (disch := first | decide | omega | (simp only [nx]; first | done | omega)) only [go_sem, Nat.reduceMul, q23, w1]; (repeat (with_reducible refine And.intro (by first | omega | assumption | rfl) ?_)))
      refine ⟨by omega, _, fun _ _ h => h, by omega, by (first | (simp (disch := first | decide | omega | (simp only [nx]; first | done | omega)) only [go_sem, Nat.reduceMul, w1]; first | done | rfl) | rfl), ⟨.row X.next, ?_, .inr ⟨X.next, rfl, by have := xs.next; omega, ?_⟩⟩, ?_, ?_, by simp only [nx]; omega, ?_⟩
      · rw [hsuc, List.filter_append, List.filter_cons_of_pos hyes, List.filter_nil, List.map_append]
        simp (disch := first | decide | omega | (simp only [nx]; first | done | omega)) only [go_sem, Nat.reduceMul]
        rfl
      · rw [hsuc, List.filter_append, List.filter_cons_of_pos hyes, List.filter_nil, List.length_append]
        exact grow_hit
      · exact (grow_skip (by omega) (hne _ (by omega) ⟨_, _, x2⟩)).trans x2
      · exact (grow_skip (by omega) (hne _ (by omega) ⟨_, _, x3⟩)).trans x3
      · refine ⟨by simp only [nx]; have := xs.next; omega, fun j o e => ?_⟩
        have := hS.lt e
        have := xs.next
        show (X.grow own 44 _).ob j = some o
        rw [grow_skip (by omega) (hlo j (by omega))]
        exact xs.ob _ _ e
  · have b1 : decide ((i : Int) < (l.length : Int)) = false := by simp; omega
    have hi : i = l.length := by omega
    obtain ⟨own, q5, hrow⟩ := hP.ex
    (simp (disch := first | decide | omega | (simp only [nx]; first | done | omega)) only [go_sem, Nat.reduceMul, q22, q23, b1, q5]; (repeat (with_reducible refine And.intro (by first | omega | assumption | rfl) ?_)))
    refine ⟨?_, (by (repeat' first | assumption | exact St.Sub.refl _ | exact RowOk.sub (by assumption) (by assumption) | refine St.Sub.trans ?_ (RowOk.sub (by assumption) (by assumption)) | refine St.Sub.add ?_ ?_ _ | refine St.Sub.set ?_ ?_ ?_ _ | refine St.Sub.keep ?_ ?_ | refine St.WF.leave ?_ _ | refine St.WF.add ?_ _ | refine St.WF.set ?_ ?_ _ | refine St.WF.grow ?_ _ _ _ | refine St.WF.keep ?_ ?_ | (first | omega | (simp only [RowOk.lo, nx]; first | done | omega))))⟩
    rw [hi, List.take_length]
    simp only [encPss, D.frz, frz_mapPs]
end Go.Proofs.Ytjjhjhjphhpeiaa
