/- Texts of a proof, part 4. Conditions: none. -/
import Derived.Test.YtpnjkebjdclkfaaCPathBytes3
import Derived.Test.YtpnjkebjdclkfaaProg
import Derived.KernelRfl
import Derived.Deep.DeepCutAuto
import Derived.Sort.Walk0
import Derived.Lib.OthersKept
import Derived.Lib.TrimU
import Derived.Deep.LoopGhost
set_option linter.unusedVariables false
set_option linter.unusedSimpArgs false
/- Schemas and values as trees of the walk; contracts that were shown over memory, handed on to the walk over trees. Conditions: none. -/
namespace Go.Proofs.Ytpnjkebjdclkfaa
open Go.RowKit

def strD (s : Str) : D := .v (sv s)
def u64D (n : Nat) : D := .v (.int .u64 (n : Int))
mutual
def encS : DSch → D
  | .mk k ws ps => .agg [.v (.int .i64 k), .sl .no (ws.map strD), .sl .no (encSs ps)]
def encSs : List DSch → List D
  | [] => []
  | p :: ps => encS p :: encSs ps
end
mutual
def encV : DVal → D
  | .mk k n s ns is ps => .agg [.v (.int .i64 k), .v (.int .i64 n), strD s, .sl .no (ns.map strD), .sl .no (is.map u64D), .sl .no (encVs ps)]
def encVs : List DVal → List D
  | [] => []
  | p :: ps => encV p :: encVs ps
end
theorem encSs_map : ∀ l : List DSch, encSs l = l.map encS
  | [] => rfl
  | p :: l => by simp [encSs, encSs_map l]
theorem encVs_map : ∀ l : List DVal, encVs l = l.map encV
  | [] => rfl
  | p :: l => by simp [encVs, encVs_map l]
theorem encS_eq (s : DSch) : encS s = .agg [.v (.int .i64 s.kind), .sl .no (s.words.map strD), .sl .no (s.parts.map encS)] := by
  obtain ⟨k, ws, ps⟩ := s
  simp [encS, encSs_map, DSch.kind, DSch.words, DSch.parts]
theorem encV_eq (v : DVal) : encV v = .agg [.v (.int .i64 v.kind), .v (.int .i64 v.n), strD v.s, .sl .no (v.names.map strD), .sl .no (v.ids.map u64D), .sl .no (v.parts.map encV)] := by
  obtain ⟨k, n, s, ns, is, ps⟩ := v
  simp [encV, encVs_map, DVal.kind, DVal.n, DVal.s, DVal.names, DVal.ids, DVal.parts]
theorem closed_strs (l : List Str) : allL (fun _ => False) (l.map strD) := allL_iff.2 fun d hd => by
  obtain ⟨s, _, rfl⟩ := List.mem_map.1 hd
  trivial
theorem closed_u64s (l : List Nat) : allL (fun _ => False) (l.map u64D) := allL_iff.2 fun d hd => by
  obtain ⟨s, _, rfl⟩ := List.mem_map.1 hd
  trivial
mutual
theorem closed_encS : ∀ s : DSch, (encS s).closed
  | .mk k ws ps => by simp only [encS, D.closed, D.all, allL, Own.all]; exact ⟨trivial, ⟨trivial, closed_strs ws⟩, ⟨trivial, closed_encSs ps⟩, trivial⟩
theorem closed_encSs : ∀ l : List DSch, allL (fun _ => False) (encSs l)
  | [] => trivial
  | p :: ps => by simp only [encSs, allL]; exact ⟨closed_encS p, closed_encSs ps⟩
end
mutual
theorem closed_encV : ∀ v : DVal, (encV v).closed
  | .mk k n s ns is ps => by simp only [encV, D.closed, D.all, allL, Own.all, strD]; exact ⟨trivial, trivial, trivial, ⟨trivial, closed_strs ns⟩, ⟨trivial, closed_u64s is⟩, ⟨trivial, closed_encVs ps⟩, trivial⟩
theorem closed_encVs : ∀ l : List DVal, allL (fun _ => False) (encVs l)
  | [] => trivial
  | p :: ps => by simp only [encVs, allL]; exact ⟨closed_encV p, closed_encVs ps⟩
end
theorem frz_strs (l : List Str) : frzL (l.map strD) = l.map strD := by simp [frzL_map, strD, D.frz, Function.comp_def]
theorem frz_u64s (l : List Nat) : frzL (l.map u64D) = l.map u64D := by simp [frzL_map, u64D, D.frz, Function.comp_def]
mutual
theorem frz_encS : ∀ s : DSch, (encS s).frz = encS s
  | .mk k ws ps => by simp only [encS, D.frz, frzL, frz_strs, frz_encSs ps]
theorem frz_encSs : ∀ l : List DSch, frzL (encSs l) = encSs l
  | [] => rfl
  | p :: ps => by simp only [encSs, frzL, frz_encS p, frz_encSs ps]
end
mutual
theorem frz_encV : ∀ v : DVal, (encV v).frz = encV v
  | .mk k n s ns is ps => by simp only [encV, D.frz, frzL, frz_strs, frz_u64s, frz_encVs ps, strD]
theorem frz_encVs : ∀ l : List DVal, frzL (encVs l) = encVs l
  | [] => rfl
  | p :: ps => by simp only [encVs, frzL, frz_encV p, frz_encVs ps]
end
theorem frz_mapV (l : List DVal) : frzL (l.map encV) = l.map encV := by rw [← encVs_map, frz_encVs]
theorem frz_mapS (l : List DSch) : frzL (l.map encS) = l.map encS := by rw [← encSs_map, frz_encSs]

/-! What fits the machine's bounds. -/
mutual
def okS : DSch → Prop
  | .mk k ws ps => I64 k ∧ (∀ s ∈ ws, s.length ≤ maxLen) ∧ ws.length ≤ 140737488351232 ∧ ps.length ≤ 140737488351232 ∧ okSs ps
def okSs : List DSch → Prop
  | [] => True
  | p :: ps => okS p ∧ okSs ps
end
mutual
def okV : DVal → Prop
  | .mk k n s ns is ps => I64 k ∧ I64 n ∧ s.length ≤ maxLen ∧ (∀ s ∈ ns, s.length ≤ maxLen) ∧ ns.length ≤ 140737488351232 ∧ (∀ i ∈ is, U64 (i : Int)) ∧ is.length ≤ 140737488351232 ∧ ps.length ≤ 140737488351232 ∧ okVs ps
def okVs : List DVal → Prop
  | [] => True
  | p :: ps => okV p ∧ okVs ps
end
theorem okSs_iff : ∀ {l : List DSch}, okSs l ↔ ∀ p ∈ l, okS p
  | [] => by simp [okSs]
  | p :: l => by simp [okSs, okSs_iff (l := l)]
theorem okVs_iff : ∀ {l : List DVal}, okVs l ↔ ∀ p ∈ l, okV p
  | [] => by simp [okVs]
  | p :: l => by simp [okVs, okVs_iff (l := l)]
theorem okS_eq (s : DSch) : okS s ↔ I64 s.kind ∧ (∀ x ∈ s.words, x.length ≤ maxLen) ∧ s.words.length ≤ 140737488351232 ∧ s.parts.length ≤ 140737488351232 ∧ ∀ p ∈ s.parts, okS p := by
  obtain ⟨k, ws, ps⟩ := s
  simp only [okS, okSs_iff, DSch.kind, DSch.words, DSch.parts]
theorem okV_eq (v : DVal) : okV v ↔ I64 v.kind ∧ I64 v.n ∧ v.s.length ≤ maxLen ∧ (∀ x ∈ v.names, x.length ≤ maxLen) ∧ v.names.length ≤ 140737488351232 ∧ (∀ i ∈ v.ids, U64 (i : Int)) ∧ v.ids.length ≤ 140737488351232 ∧ v.parts.length ≤ 140737488351232 ∧ ∀ p ∈ v.parts, okV p := by
  obtain ⟨k, n, s, ns, is, ps⟩ := v
  simp only [okV, okVs_iff, DVal.kind, DVal.n, DVal.s, DVal.names, DVal.ids, DVal.parts]
theorem IsSch.ok {w : World} {F : Nat → Prop} {s : DSch} {cs : List Value} (h : IsSch w F s cs) : okS s := by
  induction h with
  | mk h1 h2 h3 h4 h5 hA hC hP h6 h7 ih =>
    simp only [okS, okSs_iff]
    refine ⟨h1, h3, h5, h7, fun p hp => ?_⟩
    obtain ⟨i, hi, rfl⟩ := List.getElem_of_mem hp
    exact ih i _ (List.getElem?_eq_getElem hi)
theorem IsVal.ok {w : World} {F : Nat → Prop} {v : DVal} {cs : List Value} (h : IsVal w F v cs) : okV v := by
  induction h with
  | mk h1 h2 h3 h4 h5 h6 h7 h8 h9 h10 h11 hA hC hP h12 h13 ih =>
    simp only [okV, okVs_iff]
    refine ⟨h1, h2, h3, h5, h7, h9, h11, h13, fun p hp => ?_⟩
    obtain ⟨i, hi, rfl⟩ := List.getElem_of_mem hp
    exact ih i _ (List.getElem?_eq_getElem hi)

section
variable {P : Program} {w : World} {η : Names} {X : Nat → Nat → Prop}
/-- A slice of single cells. -/
theorem rep_scalars {F : Nat → Prop} {α : Type} (g : α → Value) (h1 : ∀ a, (g a).oneCell' = true) (hX : ∀ b i, F b → X b i) {A : Option Addr} {c : Nat} {l : List α} (h : RF w F 1 A l.length (l.map g)) (hc : l.length ≤ c) (hn : l.length ≤ 140737488351232) :
    Rep P w η X (.sl .no (l.map fun a => .v (g a))) (.slice A l.length c) := by
  simp only [Rep]
  refine ⟨A, c, by rw [List.length_map], by rw [List.length_map]; exact hc, by rw [List.length_map]; omega, trivial, fun h0 => ?_⟩
  rw [List.length_map] at h0
  obtain ⟨b, o, e, hb, hr⟩ := h.2 h0
  refine ⟨b, o, 1, e, by omega, RepE.mk fun i d hd => ?_⟩
  rw [List.getElem?_map] at hd
  cases hi : l[i]? with
  | none => rw [hi] at hd; cases hd
  | some a =>
    rw [hi] at hd
    injection hd with hd
    subst hd
    have hcell := hr i (g a) (by rw [List.getElem?_map, hi]; rfl)
    rw [Nat.mul_one]
    exact ⟨by simp only [RepA], fun _ => ⟨rfl, hX _ _ hb, g a, hcell, h1 a, by simp only [Rep]⟩⟩
/-- A slice of structs. -/
theorem rep_structs {F : Nat → Prop} {α : Type} (e : α → D) (z : Nat) (hz : 0 < z) (hX : ∀ b i, F b → X b i) {A : Option Addr} {c b o : Nat} {l : List α} {C : Nat → List Value} (hA : 0 < l.length → A = some ⟨b, o, none⟩ ∧ F b)
    (hC : ∀ i a, l[i]? = some a → (C i).length = z ∧ w.rangeAt b (o + i * z) (C i)) (hR : ∀ i a, l[i]? = some a → Rep P w η X (e a) (.agg (C i).toArray)) (hagg : ∀ a, (e a).isAgg = true) (hc : l.length ≤ c) (hn : l.length ≤ 140737488351232) :
    Rep P w η X (.sl .no (l.map e)) (.slice A l.length c) := by
  simp only [Rep]
  refine ⟨A, c, by rw [List.length_map], by rw [List.length_map]; exact hc, by rw [List.length_map]; omega, trivial, fun h0 => ?_⟩
  rw [List.length_map] at h0
  refine ⟨b, o, z, (hA h0).1, hz, RepE.mk fun i d hd => ?_⟩
  rw [List.getElem?_map] at hd
  cases hi : l[i]? with
  | none => rw [hi] at hd; cases hd
  | some a =>
    rw [hi] at hd
    injection hd with hd
    subst hd
    have h1 := hR i a hi
    obtain ⟨h2, h3⟩ := hC i a hi
    cases he : e a with
    | agg ds =>
      rw [he] at h1
      simp only [Rep] at h1
      obtain ⟨vs, h4, h5, h6⟩ := h1
      have : C i = vs := by
        injection h4 with h4
        have := congrArg Array.toList h4
        simpa using this
      rw [this] at h2 h3
      have hlen : ds.length = z := by rw [← h5.length, h2]
      exact ⟨by simp only [RepA]; exact ⟨hlen, RepC.mk h5 h3 (fun j _ => hX _ _ (hA h0).2) h6⟩, fun h => by simp [D.isAgg] at h⟩
    | _ => have := hagg a; rw [he] at this; simp [D.isAgg] at this
theorem encS_agg (s : DSch) : (encS s).isAgg = true := by rw [encS_eq]; rfl
theorem encV_agg (v : DVal) : (encV v).isAgg = true := by rw [encV_eq]; rfl
theorem rep_sch {F : Nat → Prop} (hX : ∀ b i, F b → X b i) {s : DSch} {cs : List Value} (h : IsSch w F s cs) : Rep P w η X (encS s) (.agg cs.toArray) := by
  induction h with
  | mk h1 h2 h3 h4 h5 hA hC hP h6 h7 ih =>
    have r1 := rep_scalars (P := P) (η := η) sv (fun _ => rfl) hX h2 h4 h5
    have r2 := rep_structs (P := P) (η := η) encS 3 (by omega) hX hA hC ih encS_agg h6 h7
    simp only [encS, encSs_map, Rep, RepL]
    refine ⟨_, rfl, ⟨_, _, rfl, rfl, _, _, rfl, r1, _, _, rfl, r2, rfl⟩, by simp [Value.oneCell']⟩
theorem rep_val {F : Nat → Prop} (hX : ∀ b i, F b → X b i) {v : DVal} {cs : List Value} (h : IsVal w F v cs) : Rep P w η X (encV v) (.agg cs.toArray) := by
  induction h with
  | mk h1 h2 h3 h4 h5 h6 h7 h8 h9 h10 h11 hA hC hP h12 h13 ih =>
    have r1 := rep_scalars (P := P) (η := η) sv (fun _ => rfl) hX h4 h6 h7
    have r2 := rep_scalars (P := P) (η := η) uv (fun _ => rfl) hX h8 h10 h11
    have r3 := rep_structs (P := P) (η := η) encV 6 (by omega) hX hA hC ih encV_agg h12 h13
    simp only [encV, encVs_map, strD, Rep, RepL]
    refine ⟨_, rfl, ⟨_, _, rfl, rfl, _, _, rfl, rfl, _, _, rfl, rfl, _, _, rfl, r1, _, _, rfl, r2, _, _, rfl, r3, rfl⟩, by simp [Value.oneCell']⟩
/-- The cells of a slice of single values. -/
theorem scalars_of_rep {α : Type} (g : α → Value) {own : Own} {l : List α} {y : Value} (h : Rep P w η X (.sl own (l.map fun a => .v (g a))) y) : ∃ A c, y = .slice A l.length c ∧ l.length ≤ c ∧ RF w (· < w.heap.size) 1 A l.length (l.map g) := by
  simp only [Rep] at h
  obtain ⟨A, c, rfl, h1, _, _, h2⟩ := h
  rw [List.length_map] at *
  refine ⟨A, c, rfl, h1, by simp, fun h0 => ?_⟩
  obtain ⟨b, o, z, rfl, hz, hr⟩ := h2 h0
  have hel : ∀ j a, l[j]? = some a → w.cell? ⟨b, o + j, none⟩ = some (g a) := fun j a hj => by
    have := RepE.get j hr (d := .v (g a)) (by rw [List.getElem?_map, hj]; rfl)
    obtain ⟨e1, _, x, e2, _, e3⟩ := this.2 rfl
    simp only [Rep] at e3
    rw [e1, Nat.mul_one] at e2
    rw [e2, e3]
  refine ⟨b, o, rfl, ?_, fun j u hu => ?_⟩
  · have h3 := hel 0 _ (List.getElem?_eq_getElem h0)
    exact World.block_lt_of_cell? w _ h3
  · rw [List.getElem?_map] at hu
    cases hj : l[j]? with
    | none => rw [hj] at hu; cases hu
    | some a =>
      rw [hj] at hu
      injection hu with hu
      rw [← hu]
      exact hel j a hj
/-- The rows of a slice of structs. -/
theorem structs_of_rep {α : Type} (e : α → D) (hagg : ∀ a, (e a).isAgg = true) {own : Own} {l : List α} {y : Value} {z : Nat} (hw : ∀ a, (e a).width = z) (hz : 0 < z) (h : Rep P w η X (.sl own (l.map e)) y) :
    ∃ A c b o, ∃ C : Nat → List Value, y = .slice A l.length c ∧ l.length ≤ c ∧ (0 < l.length → A = some ⟨b, o, none⟩ ∧ b < w.heap.size) ∧ (∀ i a, l[i]? = some a → (C i).length = z ∧ w.rangeAt b (o + i * z) (C i)) ∧ ∀ i a, l[i]? = some a → Rep P w η X (e a) (.agg (C i).toArray) := by
  simp only [Rep] at h
  obtain ⟨A, c, rfl, h1, _, _, h2⟩ := h
  rw [List.length_map] at *
  rcases Nat.eq_zero_or_pos l.length with h0 | h0
  · have : l = [] := List.eq_nil_of_length_eq_zero h0
    subst this
    exact ⟨A, c, 0, 0, fun _ => [], rfl, h1, fun h => absurd h (by simp), fun i a ha => by simp at ha, fun i a ha => by simp at ha⟩
  obtain ⟨b, o, z', rfl, hz', hr⟩ := h2 h0
  have key : ∀ i, i < l.length → ∃ vs : List Value, vs.length = z ∧ w.rangeAt b (o + i * z) vs ∧ ∀ a, l[i]? = some a → Rep P w η X (e a) (.agg vs.toArray) := fun i hi => by
    have hel := (RepE.get i hr (d := e l[i]) (by rw [List.getElem?_map, List.getElem?_eq_getElem hi]; rfl)).cells
    have hzz : z' = z := by rw [← hel.1, hw]
    subst hzz
    obtain ⟨vs, k1, k2, k3, k4⟩ := hel.2.range
    refine ⟨vs, by rw [k1]; exact hel.1, k2, fun a ha => ?_⟩
    rw [List.getElem?_eq_getElem hi] at ha
    injection ha with ha
    subst ha
    have hg := hagg l[i]
    revert k3 hg
    cases e l[i] with
    | agg ds => intro k3 _; simp only [Rep]; exact ⟨vs, rfl, k3, k4⟩
    | _ => intro _ hg; simp [D.isAgg] at hg
  refine ⟨_, c, b, o, fun i => if hi : i < l.length then Classical.choose (key i hi) else [], rfl, h1, fun _ => ⟨rfl, ?_⟩, fun i a ha => ?_, fun i a ha => ?_⟩
  · have hk := Classical.choose_spec (key 0 h0)
    have := hk.2.1 0 (Classical.choose (key 0 h0))[0] (List.getElem?_eq_getElem (by rw [hk.1]; exact hz))
    exact World.block_lt_of_cell? w _ this
  · have hi : i < l.length := (List.getElem?_eq_some_iff.1 ha).1
    dsimp only
    rw [dif_pos hi]
    have hk := Classical.choose_spec (key i hi)
    exact ⟨hk.1, hk.2.1⟩
  · have hi : i < l.length := (List.getElem?_eq_some_iff.1 ha).1
    dsimp only
    rw [dif_pos hi]
    exact (Classical.choose_spec (key i hi)).2.2 a ha
theorem width_encS (s : DSch) : (encS s).width = 3 := by rw [encS_eq]; rfl
theorem width_encV (v : DVal) : (encV v).width = 6 := by rw [encV_eq]; rfl
theorem sch_of_rep : ∀ (n : Nat) (s : DSch), s.depth ≤ n → okS s → ∀ {y : Value}, Rep P w η X (encS s) y → ∃ cs : List Value, y = .agg cs.toArray ∧ IsSch w (· < w.heap.size) s cs
  | 0, s, h, _, _, _ => by have := s.depth_pos; omega
  | n + 1, s, hd, hok, y, h => by
    have hdp : ∀ p ∈ s.parts, p.depth < s.depth := fun p hp => DSch.depth_part hp
    obtain ⟨o1, o2, o3, o4, o5⟩ := (okS_eq s).1 hok
    rw [encS_eq] at h
    simp only [Rep, RepL] at h
    obtain ⟨vs, rfl, ⟨_, _, rfl, rfl, _, _, rfl, h2, _, _, rfl, h3, rfl⟩, _⟩ := h
    have h2' := scalars_of_rep (P := P) (w := w) (η := η) (X := X) sv (own := .no) (l := s.words) (by simp only [Rep]; exact h2)
    have h3' := structs_of_rep (P := P) (w := w) (η := η) (X := X) encS encS_agg (own := .no) (l := s.parts) width_encS (by omega) (by simp only [Rep]; exact h3)
    obtain ⟨A1, c1, rfl, g1, g2⟩ := h2'
    obtain ⟨A2, c2, b, o, C, rfl, k1, k2, k3, k4⟩ := h3'
    refine ⟨_, rfl, ?_⟩
    obtain ⟨k, ws, ps⟩ := s
    refine .mk o1 g2 o2 g1 o3 k2 k3 (fun i p hp => ?_) k1 o4
    obtain ⟨cs, e1, e2⟩ := sch_of_rep n p (by have := hdp p (List.mem_of_getElem? hp); omega) (o5 p (List.mem_of_getElem? hp)) (k4 i p hp)
    have : C i = cs := by
      injection e1 with e1
      have := congrArg Array.toList e1
      simpa using this
    rw [this]
    exact e2
theorem val_of_rep : ∀ (n : Nat) (s : DVal), s.depth ≤ n → okV s → ∀ {y : Value}, Rep P w η X (encV s) y → ∃ cs : List Value, y = .agg cs.toArray ∧ IsVal w (· < w.heap.size) s cs
  | 0, s, h, _, _, _ => by have := s.depth_pos; omega
  | n + 1, s, hd, hok, y, h => by
    have hdp : ∀ p ∈ s.parts, p.depth < s.depth := fun p hp => DVal.depth_part hp
    obtain ⟨o1, o2, o3, o4, o5, o6, o7, o8, o9⟩ := (okV_eq s).1 hok
    rw [encV_eq] at h
    simp only [strD, Rep, RepL] at h
    obtain ⟨vs, rfl, ⟨_, _, rfl, rfl, _, _, rfl, rfl, _, _, rfl, rfl, _, _, rfl, h2, _, _, rfl, h4, _, _, rfl, h3, rfl⟩, _⟩ := h
    have h2' := scalars_of_rep (P := P) (w := w) (η := η) (X := X) sv (own := .no) (l := s.names) (by simp only [Rep]; exact h2)
    have h4' := scalars_of_rep (P := P) (w := w) (η := η) (X := X) uv (own := .no) (l := s.ids) (by simp only [Rep]; exact h4)
    have h3' := structs_of_rep (P := P) (w := w) (η := η) (X := X) encV encV_agg (own := .no) (l := s.parts) width_encV (by omega) (by simp only [Rep]; exact h3)
    obtain ⟨A1, c1, rfl, g1, g2⟩ := h2'
    obtain ⟨A3, c3, rfl, g3, g4⟩ := h4'
    obtain ⟨A2, c2, b, o, C, rfl, k1, k2, k3, k4⟩ := h3'
    refine ⟨_, rfl, ?_⟩
    obtain ⟨k, n', s', ns, is, ps⟩ := s
    refine .mk o1 o2 o3 g2 o4 g1 o5 g4 o6 g3 o7 k2 k3 (fun i p hp => ?_) k1 o8
    obtain ⟨cs, e1, e2⟩ := val_of_rep n p (by have := hdp p (List.mem_of_getElem? hp); omega) (o9 p (List.mem_of_getElem? hp)) (k4 i p hp)
    have : C i = cs := by
      injection e1 with e1
      have := congrArg Array.toList e1
      simpa using this
    rw [this]
    exact e2
end
/-! ### Over memory, and over trees -/
section
variable {P : Program} {base : Nat} {S : St} {η : Names} {w : World}
theorem goes_below (h : Mem P base S η w) {w' : World} (hb : Below w.heap.size w w') : Goes P base S η w S η w' := by
  have K : Keep (fun _ => True) w η (Fix P S η) w' η (Fix P S η) := ⟨hb.size, fun b i hlt hx => ⟨hx, hb.cell (p := ⟨b, i, none⟩) hlt⟩, fun _ _ _ hx => hx, fun b cur _ hx => ⟨cur, by rw [hb.block b ((Array.getElem?_eq_some_iff.1 hx).1)]; exact hx, rfl⟩⟩
  refine ⟨⟨Nat.le_trans h.base_ hb.size, h.dead, h.fresh, h.live, h.inj, fun k b hk => ⟨(h.in_ k b hk).1, Nat.lt_of_lt_of_le (h.in_ k b hk).2 hb.size⟩, fun k t cs b h1 h2 => ?_, fun k e n b h1 h2 => ?_⟩, K, hb.mono h.base_⟩
  · obtain ⟨vs, k1, k2, k3⟩ := h.box k t cs b h1 h2
    exact ⟨vs, by rw [hb.block b (h.in_ k b h2).2]; exact k1, RepL.keep K (allL_true _) k2, k3⟩
  · obtain ⟨cur, k1, k2⟩ := h.row k e n b h1 h2
    exact ⟨cur, by rw [hb.block b (h.in_ k b h2).2]; exact k1, k2⟩
/-- A contract over memory, of a plain answer. -/
theorem dpure_of_gives {g : FuncId} {args : List D} {v : Value} (hent : ∀ vs w, (callFunc g vs).run P w = .ok (.enter g vs) w) (h : ∀ (w : World) (η : Names) (X : Nat → Nat → Prop) (vs : List Value), RepL P w η X args vs → Calls P g vs.toArray w (Gives v w)) : DPure P g args (.v v) :=
  fun _ _ η w vs hM hr => ⟨hent _ _, (h w η _ vs hr).mono fun _ _ ⟨he, hb⟩ => ⟨.v v, _, η, v, ⟨rfl, rfl⟩, he, by simp only [Rep], goes_below hM hb⟩⟩
def St.nil : St := ⟨0, fun _ => none⟩
theorem mem_nil (w : World) : Mem P w.heap.size St.nil (fun _ => none) w := ⟨Nat.le_refl _, fun _ _ => rfl, fun _ _ => rfl, (fun _ _ _ h => by cases h), (fun _ _ _ h => by cases h), (fun _ _ h => by cases h), (fun _ _ _ _ h => by cases h), (fun _ _ _ _ h => by cases h)⟩
theorem fix_nil (b i : Nat) : Fix P St.nil (fun _ => none) b i := fun _ _ h => by cases h
/-- A contract over trees, of a plain answer, at a call in any memory. -/
theorem gives_of_dpure {g : FuncId} {args : List D} {v : Value} (h : DPure P g args (.v v)) {w : World} {vs : List Value} (hr : RepL P w (fun _ => none) (Fix P St.nil fun _ => none) args vs) : Calls P g vs.toArray w (Gives v w) :=
  (h St.nil w.heap.size _ w vs (mem_nil w) hr).2.mono fun _ _ ⟨d, S', η', u, ⟨h1, _⟩, h2, h3, h4⟩ => by
    subst h1
    simp only [Rep] at h3
    subst h3
    exact ⟨h2, h4.below⟩
end
theorem empty_toList : (⟨#[]⟩ : ByteArray).toList = [] := by rw [Go.Lib.toList_data]
theorem cells_encV (v : DVal) : (encV v).cells.length = 6 := width_encV v
theorem cells_encS (s : DSch) : (encS s).cells.length = 3 := width_encS s
theorem agg_encV (v : DVal) : D.agg (encV v).cells = encV v := by rw [encV_eq]; rfl
theorem agg_encS (s : DSch) : D.agg (encS s).cells = encS s := by rw [encS_eq]; rfl
theorem take_encV (v : DVal) : (encV v).cells.take 6 = (encV v).cells := List.take_of_length_le (by rw [cells_encV]; omega)
theorem take_encS (s : DSch) : (encS s).cells.take 3 = (encS s).cells := List.take_of_length_le (by rw [cells_encS]; omega)
theorem okCell_encV (v : DVal) : (encV v).okCell = true := by rw [encV_eq]; rfl
theorem okCell_encS (s : DSch) : (encS s).okCell = true := by rw [encS_eq]; rfl
theorem cut_guard {P : Program} {x : D} {want : Bool} {f : Fm} {S : St} {ty : TypeId} {op : Op} {ops : Array Oper} {R J : Fm → St → Prop} {r : List Oper} {dst : Option Tmp} (J' : Fm → St → Prop) (hJ : J = J') (h : ∀ f S, J f S → R f S)
    (k : dguard x want (dopF P f S ty op (dnext P ops J r f dst)) (dskip P ops J r f dst S)) : dguard x want (dopF P f S ty op (dnext P ops R r f dst)) (dskip P ops R r f dst S) := by
  cases x with
  | v u => cases u with
    | bool b => exact ⟨fun e => dop_mono (fun d S' hd => dops_mono h r hd) (k.1 e), fun e => dops_mono h r (k.2 e)⟩
    | _ => exact k
  | tup l => cases l with
    | nil => exact dops_mono h r k
    | cons d l => exact k
  | _ => exact k
attribute [go_sem] empty_toList strB_size cells_encV cells_encS agg_encV agg_encS take_encV take_encS okCell_encV okCell_encS strD u64D
end Go.Proofs.Ytpnjkebjdclkfaa

/- Closed facts on the types of this seat. Conditions: none. -/
namespace Go.Proofs.Ytpnjkebjdclkfaa

@[go_sem] theorem okT_1 : okT Try.prog 1 = true := by kernel_rfl
@[go_sem] theorem szOf_1 : szOf Try.prog 1 = 1 := by kernel_rfl
@[go_sem] theorem aggT_1 : aggT Try.prog 1 = false := by kernel_rfl
@[go_sem] theorem undS_1 : (Try.prog.underlying 1).isSome = true := by kernel_rfl
@[go_sem] theorem infS_1 : (Try.prog.info? 1).isSome = true := by kernel_rfl
@[go_sem] theorem ifaceT_1 : ifaceT Try.prog 1 = false := by kernel_rfl
@[go_sem] theorem ptrT_1 : ptrT Try.prog 1 = false := by kernel_rfl
@[go_sem] theorem zeroT_1 : zeroT Try.prog 1 = true := by kernel_rfl
@[go_sem] theorem zeroOk_1 : zeroOk Try.prog 1 = true := by kernel_rfl
@[go_sem] theorem bytesOf_1 : bytesOf Try.prog 1 = 8 := by kernel_rfl
@[go_sem] theorem zeroD_1 : zeroD Try.prog 1 = [.v .nilFunc] := by kernel_rfl
@[go_sem] theorem okT_2 : okT Try.prog 2 = true := by kernel_rfl
@[go_sem] theorem szOf_2 : szOf Try.prog 2 = 1 := by kernel_rfl
@[go_sem] theorem aggT_2 : aggT Try.prog 2 = false := by kernel_rfl
@[go_sem] theorem undS_2 : (Try.prog.underlying 2).isSome = true := by kernel_rfl
@[go_sem] theorem infS_2 : (Try.prog.info? 2).isSome = true := by kernel_rfl
@[go_sem] theorem ifaceT_2 : ifaceT Try.prog 2 = false := by kernel_rfl
@[go_sem] theorem ptrT_2 : ptrT Try.prog 2 = false := by kernel_rfl
@[go_sem] theorem zeroT_2 : zeroT Try.prog 2 = true := by kernel_rfl
@[go_sem] theorem zeroOk_2 : zeroOk Try.prog 2 = true := by kernel_rfl
@[go_sem] theorem bytesOf_2 : bytesOf Try.prog 2 = 8 := by kernel_rfl
@[go_sem] theorem zeroD_2 : zeroD Try.prog 2 = [.v (.int .i64 0)] := by kernel_rfl
@[go_sem] theorem okT_3 : okT Try.prog 3 = true := by kernel_rfl
@[go_sem] theorem szOf_3 : szOf Try.prog 3 = 1 := by kernel_rfl
@[go_sem] theorem aggT_3 : aggT Try.prog 3 = false := by kernel_rfl
@[go_sem] theorem undS_3 : (Try.prog.underlying 3).isSome = true := by kernel_rfl
@[go_sem] theorem infS_3 : (Try.prog.info? 3).isSome = true := by kernel_rfl
@[go_sem] theorem ifaceT_3 : ifaceT Try.prog 3 = false := by kernel_rfl
@[go_sem] theorem ptrT_3 : ptrT Try.prog 3 = false := by kernel_rfl
@[go_sem] theorem zeroT_3 : zeroT Try.prog 3 = true := by kernel_rfl
@[go_sem] theorem zeroOk_3 : zeroOk Try.prog 3 = true := by kernel_rfl
@[go_sem] theorem bytesOf_3 : bytesOf Try.prog 3 = 8 := by kernel_rfl
@[go_sem] theorem zeroD_3 : zeroD Try.prog 3 = [.v (.int .i64 0)] := by kernel_rfl
@[go_sem] theorem okT_4 : okT Try.prog 4 = true := by kernel_rfl
@[go_sem] theorem szOf_4 : szOf Try.prog 4 = 1 := by kernel_rfl
@[go_sem] theorem aggT_4 : aggT Try.prog 4 = false := by kernel_rfl
@[go_sem] theorem undS_4 : (Try.prog.underlying 4).isSome = true := by kernel_rfl
@[go_sem] theorem infS_4 : (Try.prog.info? 4).isSome = true := by kernel_rfl
@[go_sem] theorem ifaceT_4 : ifaceT Try.prog 4 = false := by kernel_rfl
@[go_sem] theorem ptrT_4 : ptrT Try.prog 4 = false := by kernel_rfl
@[go_sem] theorem zeroT_4 : zeroT Try.prog 4 = true := by kernel_rfl
@[go_sem] theorem zeroOk_4 : zeroOk Try.prog 4 = true := by kernel_rfl
@[go_sem] theorem bytesOf_4 : bytesOf Try.prog 4 = 1 := by kernel_rfl
@[go_sem] theorem zeroD_4 : zeroD Try.prog 4 = [.v (.bool false)] := by kernel_rfl
@[go_sem] theorem okT_5 : okT Try.prog 5 = true := by kernel_rfl
@[go_sem] theorem szOf_5 : szOf Try.prog 5 = 1 := by kernel_rfl
@[go_sem] theorem aggT_5 : aggT Try.prog 5 = false := by kernel_rfl
@[go_sem] theorem undS_5 : (Try.prog.underlying 5).isSome = true := by kernel_rfl
@[go_sem] theorem infS_5 : (Try.prog.info? 5).isSome = true := by kernel_rfl
@[go_sem] theorem ifaceT_5 : ifaceT Try.prog 5 = false := by kernel_rfl
@[go_sem] theorem ptrT_5 : ptrT Try.prog 5 = false := by kernel_rfl
@[go_sem] theorem zeroT_5 : zeroT Try.prog 5 = true := by kernel_rfl
@[go_sem] theorem zeroOk_5 : zeroOk Try.prog 5 = true := by kernel_rfl
@[go_sem] theorem bytesOf_5 : bytesOf Try.prog 5 = 1 := by kernel_rfl
@[go_sem] theorem zeroD_5 : zeroD Try.prog 5 = [.v (.int .u8 0)] := by kernel_rfl
@[go_sem] theorem okT_6 : okT Try.prog 6 = true := by kernel_rfl
@[go_sem] theorem szOf_6 : szOf Try.prog 6 = 1 := by kernel_rfl
@[go_sem] theorem aggT_6 : aggT Try.prog 6 = false := by kernel_rfl
@[go_sem] theorem undS_6 : (Try.prog.underlying 6).isSome = true := by kernel_rfl
@[go_sem] theorem infS_6 : (Try.prog.info? 6).isSome = true := by kernel_rfl
@[go_sem] theorem ifaceT_6 : ifaceT Try.prog 6 = false := by kernel_rfl
@[go_sem] theorem ptrT_6 : ptrT Try.prog 6 = false := by kernel_rfl
@[go_sem] theorem zeroT_6 : zeroT Try.prog 6 = true := by kernel_rfl
@[go_sem] theorem zeroOk_6 : zeroOk Try.prog 6 = true := by kernel_rfl
@[go_sem] theorem bytesOf_6 : bytesOf Try.prog 6 = 1 := by kernel_rfl
@[go_sem] theorem zeroD_6 : zeroD Try.prog 6 = [.v (.int .u8 0)] := by kernel_rfl
@[go_sem] theorem okT_7 : okT Try.prog 7 = true := by kernel_rfl
@[go_sem] theorem szOf_7 : szOf Try.prog 7 = 4 := by kernel_rfl
@[go_sem] theorem aggT_7 : aggT Try.prog 7 = true := by kernel_rfl
@[go_sem] theorem undS_7 : (Try.prog.underlying 7).isSome = true := by kernel_rfl
@[go_sem] theorem infS_7 : (Try.prog.info? 7).isSome = true := by kernel_rfl
@[go_sem] theorem ifaceT_7 : ifaceT Try.prog 7 = false := by kernel_rfl
@[go_sem] theorem ptrT_7 : ptrT Try.prog 7 = false := by kernel_rfl
@[go_sem] theorem zeroT_7 : zeroT Try.prog 7 = true := by kernel_rfl
@[go_sem] theorem zeroOk_7 : zeroOk Try.prog 7 = true := by kernel_rfl
@[go_sem] theorem bytesOf_7 : bytesOf Try.prog 7 = 24 := by kernel_rfl
@[go_sem] theorem zeroD_7 : zeroD Try.prog 7 = [.v (.int .i64 0), .v (.int .i64 0), .v (.bool false), .v (.int .u8 0)] := by kernel_rfl
@[go_sem] theorem fld_7_0 : fld Try.prog 7 0 = some (0, 2) := by kernel_rfl
@[go_sem] theorem fld_7_1 : fld Try.prog 7 1 = some (1, 3) := by kernel_rfl
@[go_sem] theorem fld_7_2 : fld Try.prog 7 2 = some (2, 4) := by kernel_rfl
@[go_sem] theorem fld_7_3 : fld Try.prog 7 3 = some (3, 6) := by kernel_rfl
noncomputable def pl7 : Nat → Option (Nat × Nat) := (placeT Try.prog 7).getD fun _ => none
@[go_sem] theorem placeT_7 : placeT Try.prog 7 = some pl7 := by kernel_rfl
@[go_sem] theorem pl_7_0 : pl7 0 = some (0, 1) := by kernel_rfl
@[go_sem] theorem pl_7_1 : pl7 1 = some (1, 1) := by kernel_rfl
@[go_sem] theorem pl_7_2 : pl7 2 = some (2, 1) := by kernel_rfl
@[go_sem] theorem pl_7_3 : pl7 3 = some (3, 1) := by kernel_rfl
@[go_sem] theorem okT_8 : okT Try.prog 8 = true := by kernel_rfl
@[go_sem] theorem szOf_8 : szOf Try.prog 8 = 4 := by kernel_rfl
@[go_sem] theorem aggT_8 : aggT Try.prog 8 = true := by kernel_rfl
@[go_sem] theorem undS_8 : (Try.prog.underlying 8).isSome = true := by kernel_rfl
@[go_sem] theorem infS_8 : (Try.prog.info? 8).isSome = true := by kernel_rfl
@[go_sem] theorem ifaceT_8 : ifaceT Try.prog 8 = false := by kernel_rfl
@[go_sem] theorem ptrT_8 : ptrT Try.prog 8 = false := by kernel_rfl
@[go_sem] theorem zeroT_8 : zeroT Try.prog 8 = true := by kernel_rfl
@[go_sem] theorem zeroOk_8 : zeroOk Try.prog 8 = true := by kernel_rfl
@[go_sem] theorem bytesOf_8 : bytesOf Try.prog 8 = 24 := by kernel_rfl
@[go_sem] theorem zeroD_8 : zeroD Try.prog 8 = [.v (.int .i64 0), .v (.int .i64 0), .v (.bool false), .v (.int .u8 0)] := by kernel_rfl
@[go_sem] theorem fld_8_0 : fld Try.prog 8 0 = some (0, 2) := by kernel_rfl
@[go_sem] theorem fld_8_1 : fld Try.prog 8 1 = some (1, 3) := by kernel_rfl
@[go_sem] theorem fld_8_2 : fld Try.prog 8 2 = some (2, 4) := by kernel_rfl
@[go_sem] theorem fld_8_3 : fld Try.prog 8 3 = some (3, 6) := by kernel_rfl
noncomputable def pl8 : Nat → Option (Nat × Nat) := (placeT Try.prog 8).getD fun _ => none
@[go_sem] theorem placeT_8 : placeT Try.prog 8 = some pl8 := by kernel_rfl
@[go_sem] theorem pl_8_0 : pl8 0 = some (0, 1) := by kernel_rfl
@[go_sem] theorem pl_8_1 : pl8 1 = some (1, 1) := by kernel_rfl
@[go_sem] theorem pl_8_2 : pl8 2 = some (2, 1) := by kernel_rfl
@[go_sem] theorem pl_8_3 : pl8 3 = some (3, 1) := by kernel_rfl
@[go_sem] theorem okT_9 : okT Try.prog 9 = true := by kernel_rfl
@[go_sem] theorem szOf_9 : szOf Try.prog 9 = 1 := by kernel_rfl
@[go_sem] theorem aggT_9 : aggT Try.prog 9 = false := by kernel_rfl
@[go_sem] theorem undS_9 : (Try.prog.underlying 9).isSome = true := by kernel_rfl
@[go_sem] theorem infS_9 : (Try.prog.info? 9).isSome = true := by kernel_rfl
@[go_sem] theorem ifaceT_9 : ifaceT Try.prog 9 = false := by kernel_rfl
@[go_sem] theorem ptrT_9 : ptrT Try.prog 9 = false := by kernel_rfl
@[go_sem] theorem zeroT_9 : zeroT Try.prog 9 = true := by kernel_rfl
@[go_sem] theorem zeroOk_9 : zeroOk Try.prog 9 = true := by kernel_rfl
@[go_sem] theorem bytesOf_9 : bytesOf Try.prog 9 = 16 := by kernel_rfl
@[go_sem] theorem zeroD_9 : zeroD Try.prog 9 = [.v (.string ⟨#[]⟩)] := by kernel_rfl
@[go_sem] theorem strT_9 : strT Try.prog 9 = true := by kernel_rfl
@[go_sem] theorem bul_9 (s : ByteArray) (ty : TypeId) (cs : Array Bool) : dbuiltin Try.prog .len #[9] ty cs [.v (.string s)] = some (True, .v (.int .i64 s.size)) := bu_slen s _ ty cs strT_9
@[go_sem] theorem okT_10 : okT Try.prog 10 = true := by kernel_rfl
@[go_sem] theorem szOf_10 : szOf Try.prog 10 = 1 := by kernel_rfl
@[go_sem] theorem aggT_10 : aggT Try.prog 10 = false := by kernel_rfl
@[go_sem] theorem undS_10 : (Try.prog.underlying 10).isSome = true := by kernel_rfl
@[go_sem] theorem infS_10 : (Try.prog.info? 10).isSome = true := by kernel_rfl
@[go_sem] theorem ifaceT_10 : ifaceT Try.prog 10 = false := by kernel_rfl
@[go_sem] theorem ptrT_10 : ptrT Try.prog 10 = false := by kernel_rfl
@[go_sem] theorem zeroT_10 : zeroT Try.prog 10 = true := by kernel_rfl
@[go_sem] theorem zeroOk_10 : zeroOk Try.prog 10 = true := by kernel_rfl
@[go_sem] theorem bytesOf_10 : bytesOf Try.prog 10 = 16 := by kernel_rfl
@[go_sem] theorem zeroD_10 : zeroD Try.prog 10 = [.v (.string ⟨#[]⟩)] := by kernel_rfl
@[go_sem] theorem strT_10 : strT Try.prog 10 = true := by kernel_rfl
@[go_sem] theorem bul_10 (s : ByteArray) (ty : TypeId) (cs : Array Bool) : dbuiltin Try.prog .len #[10] ty cs [.v (.string s)] = some (True, .v (.int .i64 s.size)) := bu_slen s _ ty cs strT_10
@[go_sem] theorem okT_11 : okT Try.prog 11 = true := by kernel_rfl
@[go_sem] theorem szOf_11 : szOf Try.prog 11 = 1 := by kernel_rfl
@[go_sem] theorem aggT_11 : aggT Try.prog 11 = false := by kernel_rfl
@[go_sem] theorem undS_11 : (Try.prog.underlying 11).isSome = true := by kernel_rfl
@[go_sem] theorem infS_11 : (Try.prog.info? 11).isSome = true := by kernel_rfl
@[go_sem] theorem ifaceT_11 : ifaceT Try.prog 11 = false := by kernel_rfl
@[go_sem] theorem ptrT_11 : ptrT Try.prog 11 = false := by kernel_rfl
@[go_sem] theorem zeroT_11 : zeroT Try.prog 11 = true := by kernel_rfl
@[go_sem] theorem zeroOk_11 : zeroOk Try.prog 11 = true := by kernel_rfl
@[go_sem] theorem bytesOf_11 : bytesOf Try.prog 11 = 16 := by kernel_rfl
@[go_sem] theorem zeroD_11 : zeroD Try.prog 11 = [.v (.string ⟨#[]⟩)] := by kernel_rfl
@[go_sem] theorem strT_11 : strT Try.prog 11 = true := by kernel_rfl
@[go_sem] theorem bul_11 (s : ByteArray) (ty : TypeId) (cs : Array Bool) : dbuiltin Try.prog .len #[11] ty cs [.v (.string s)] = some (True, .v (.int .i64 s.size)) := bu_slen s _ ty cs strT_11
@[go_sem] theorem okT_12 : okT Try.prog 12 = true := by kernel_rfl
@[go_sem] theorem szOf_12 : szOf Try.prog 12 = 1 := by kernel_rfl
@[go_sem] theorem aggT_12 : aggT Try.prog 12 = false := by kernel_rfl
@[go_sem] theorem undS_12 : (Try.prog.underlying 12).isSome = true := by kernel_rfl
@[go_sem] theorem infS_12 : (Try.prog.info? 12).isSome = true := by kernel_rfl
@[go_sem] theorem ifaceT_12 : ifaceT Try.prog 12 = false := by kernel_rfl
@[go_sem] theorem ptrT_12 : ptrT Try.prog 12 = false := by kernel_rfl
@[go_sem] theorem zeroT_12 : zeroT Try.prog 12 = true := by kernel_rfl
@[go_sem] theorem zeroOk_12 : zeroOk Try.prog 12 = true := by kernel_rfl
@[go_sem] theorem bytesOf_12 : bytesOf Try.prog 12 = 8 := by kernel_rfl
@[go_sem] theorem zeroD_12 : zeroD Try.prog 12 = [.v (.int .u64 0)] := by kernel_rfl
@[go_sem] theorem okT_13 : okT Try.prog 13 = true := by kernel_rfl
@[go_sem] theorem szOf_13 : szOf Try.prog 13 = 2 := by kernel_rfl
@[go_sem] theorem aggT_13 : aggT Try.prog 13 = true := by kernel_rfl
@[go_sem] theorem undS_13 : (Try.prog.underlying 13).isSome = true := by kernel_rfl
@[go_sem] theorem infS_13 : (Try.prog.info? 13).isSome = true := by kernel_rfl
@[go_sem] theorem ifaceT_13 : ifaceT Try.prog 13 = false := by kernel_rfl
@[go_sem] theorem ptrT_13 : ptrT Try.prog 13 = false := by kernel_rfl
@[go_sem] theorem zeroT_13 : zeroT Try.prog 13 = true := by kernel_rfl
@[go_sem] theorem zeroOk_13 : zeroOk Try.prog 13 = true := by kernel_rfl
@[go_sem] theorem bytesOf_13 : bytesOf Try.prog 13 = 24 := by kernel_rfl
@[go_sem] theorem zeroD_13 : zeroD Try.prog 13 = [.v (.string ⟨#[]⟩), .v (.int .u64 0)] := by kernel_rfl
@[go_sem] theorem fld_13_0 : fld Try.prog 13 0 = some (0, 9) := by kernel_rfl
@[go_sem] theorem fld_13_1 : fld Try.prog 13 1 = some (1, 12) := by kernel_rfl
noncomputable def pl13 : Nat → Option (Nat × Nat) := (placeT Try.prog 13).getD fun _ => none
@[go_sem] theorem placeT_13 : placeT Try.prog 13 = some pl13 := by kernel_rfl
@[go_sem] theorem pl_13_0 : pl13 0 = some (0, 1) := by kernel_rfl
@[go_sem] theorem pl_13_1 : pl13 1 = some (1, 1) := by kernel_rfl
@[go_sem] theorem okT_14 : okT Try.prog 14 = true := by kernel_rfl
@[go_sem] theorem szOf_14 : szOf Try.prog 14 = 2 := by kernel_rfl
@[go_sem] theorem aggT_14 : aggT Try.prog 14 = true := by kernel_rfl
@[go_sem] theorem undS_14 : (Try.prog.underlying 14).isSome = true := by kernel_rfl
@[go_sem] theorem infS_14 : (Try.prog.info? 14).isSome = true := by kernel_rfl
@[go_sem] theorem ifaceT_14 : ifaceT Try.prog 14 = false := by kernel_rfl
@[go_sem] theorem ptrT_14 : ptrT Try.prog 14 = false := by kernel_rfl
@[go_sem] theorem zeroT_14 : zeroT Try.prog 14 = true := by kernel_rfl
@[go_sem] theorem zeroOk_14 : zeroOk Try.prog 14 = true := by kernel_rfl
@[go_sem] theorem bytesOf_14 : bytesOf Try.prog 14 = 24 := by kernel_rfl
@[go_sem] theorem zeroD_14 : zeroD Try.prog 14 = [.v (.string ⟨#[]⟩), .v (.int .u64 0)] := by kernel_rfl
@[go_sem] theorem fld_14_0 : fld Try.prog 14 0 = some (0, 9) := by kernel_rfl
@[go_sem] theorem fld_14_1 : fld Try.prog 14 1 = some (1, 12) := by kernel_rfl
noncomputable def pl14 : Nat → Option (Nat × Nat) := (placeT Try.prog 14).getD fun _ => none
@[go_sem] theorem placeT_14 : placeT Try.prog 14 = some pl14 := by kernel_rfl
@[go_sem] theorem pl_14_0 : pl14 0 = some (0, 1) := by kernel_rfl
@[go_sem] theorem pl_14_1 : pl14 1 = some (1, 1) := by kernel_rfl
@[go_sem] theorem okT_15 : okT Try.prog 15 = true := by kernel_rfl
@[go_sem] theorem szOf_15 : szOf Try.prog 15 = 1 := by kernel_rfl
@[go_sem] theorem aggT_15 : aggT Try.prog 15 = false := by kernel_rfl
@[go_sem] theorem undS_15 : (Try.prog.underlying 15).isSome = true := by kernel_rfl
@[go_sem] theorem infS_15 : (Try.prog.info? 15).isSome = true := by kernel_rfl
@[go_sem] theorem ifaceT_15 : ifaceT Try.prog 15 = false := by kernel_rfl
@[go_sem] theorem ptrT_15 : ptrT Try.prog 15 = true := by kernel_rfl
@[go_sem] theorem zeroT_15 : zeroT Try.prog 15 = true := by kernel_rfl
@[go_sem] theorem zeroOk_15 : zeroOk Try.prog 15 = true := by kernel_rfl
@[go_sem] theorem bytesOf_15 : bytesOf Try.prog 15 = 8 := by kernel_rfl
@[go_sem] theorem zeroD_15 : zeroD Try.prog 15 = [.v (.pointer none)] := by kernel_rfl
@[go_sem] theorem okT_17 : okT Try.prog 17 = true := by kernel_rfl
@[go_sem] theorem szOf_17 : szOf Try.prog 17 = 1 := by kernel_rfl
@[go_sem] theorem aggT_17 : aggT Try.prog 17 = false := by kernel_rfl
@[go_sem] theorem undS_17 : (Try.prog.underlying 17).isSome = true := by kernel_rfl
@[go_sem] theorem infS_17 : (Try.prog.info? 17).isSome = true := by kernel_rfl
@[go_sem] theorem ifaceT_17 : ifaceT Try.prog 17 = false := by kernel_rfl
@[go_sem] theorem ptrT_17 : ptrT Try.prog 17 = true := by kernel_rfl
@[go_sem] theorem zeroT_17 : zeroT Try.prog 17 = true := by kernel_rfl
@[go_sem] theorem zeroOk_17 : zeroOk Try.prog 17 = true := by kernel_rfl
@[go_sem] theorem bytesOf_17 : bytesOf Try.prog 17 = 8 := by kernel_rfl
@[go_sem] theorem zeroD_17 : zeroD Try.prog 17 = [.v (.pointer none)] := by kernel_rfl
@[go_sem] theorem okT_18 : okT Try.prog 18 = true := by kernel_rfl
@[go_sem] theorem szOf_18 : szOf Try.prog 18 = 1 := by kernel_rfl
@[go_sem] theorem aggT_18 : aggT Try.prog 18 = true := by kernel_rfl
@[go_sem] theorem undS_18 : (Try.prog.underlying 18).isSome = true := by kernel_rfl
@[go_sem] theorem infS_18 : (Try.prog.info? 18).isSome = true := by kernel_rfl
@[go_sem] theorem ifaceT_18 : ifaceT Try.prog 18 = false := by kernel_rfl
@[go_sem] theorem ptrT_18 : ptrT Try.prog 18 = false := by kernel_rfl
@[go_sem] theorem zeroT_18 : zeroT Try.prog 18 = true := by kernel_rfl
@[go_sem] theorem zeroOk_18 : zeroOk Try.prog 18 = true := by kernel_rfl
@[go_sem] theorem bytesOf_18 : bytesOf Try.prog 18 = 8 := by kernel_rfl
@[go_sem] theorem zeroD_18 : zeroD Try.prog 18 = [.v (.pointer none)] := by kernel_rfl
@[go_sem] theorem fld_18_0 : fld Try.prog 18 0 = some (0, 17) := by kernel_rfl
noncomputable def pl18 : Nat → Option (Nat × Nat) := (placeT Try.prog 18).getD fun _ => none
@[go_sem] theorem placeT_18 : placeT Try.prog 18 = some pl18 := by kernel_rfl
@[go_sem] theorem pl_18_0 : pl18 0 = some (0, 1) := by kernel_rfl
@[go_sem] theorem okT_19 : okT Try.prog 19 = true := by kernel_rfl
@[go_sem] theorem szOf_19 : szOf Try.prog 19 = 1 := by kernel_rfl
@[go_sem] theorem aggT_19 : aggT Try.prog 19 = true := by kernel_rfl
@[go_sem] theorem undS_19 : (Try.prog.underlying 19).isSome = true := by kernel_rfl
@[go_sem] theorem infS_19 : (Try.prog.info? 19).isSome = true := by kernel_rfl
@[go_sem] theorem ifaceT_19 : ifaceT Try.prog 19 = false := by kernel_rfl
@[go_sem] theorem ptrT_19 : ptrT Try.prog 19 = false := by kernel_rfl
@[go_sem] theorem zeroT_19 : zeroT Try.prog 19 = true := by kernel_rfl
@[go_sem] theorem zeroOk_19 : zeroOk Try.prog 19 = true := by kernel_rfl
@[go_sem] theorem bytesOf_19 : bytesOf Try.prog 19 = 8 := by kernel_rfl
@[go_sem] theorem zeroD_19 : zeroD Try.prog 19 = [.v (.pointer none)] := by kernel_rfl
@[go_sem] theorem fld_19_0 : fld Try.prog 19 0 = some (0, 17) := by kernel_rfl
noncomputable def pl19 : Nat → Option (Nat × Nat) := (placeT Try.prog 19).getD fun _ => none
@[go_sem] theorem placeT_19 : placeT Try.prog 19 = some pl19 := by kernel_rfl
@[go_sem] theorem pl_19_0 : pl19 0 = some (0, 1) := by kernel_rfl
@[go_sem] theorem okT_20 : okT Try.prog 20 = true := by kernel_rfl
@[go_sem] theorem szOf_20 : szOf Try.prog 20 = 1 := by kernel_rfl
@[go_sem] theorem aggT_20 : aggT Try.prog 20 = false := by kernel_rfl
@[go_sem] theorem undS_20 : (Try.prog.underlying 20).isSome = true := by kernel_rfl
@[go_sem] theorem infS_20 : (Try.prog.info? 20).isSome = true := by kernel_rfl
@[go_sem] theorem ifaceT_20 : ifaceT Try.prog 20 = true := by kernel_rfl
@[go_sem] theorem ptrT_20 : ptrT Try.prog 20 = false := by kernel_rfl
@[go_sem] theorem zeroT_20 : zeroT Try.prog 20 = true := by kernel_rfl
@[go_sem] theorem zeroOk_20 : zeroOk Try.prog 20 = true := by kernel_rfl
@[go_sem] theorem bytesOf_20 : bytesOf Try.prog 20 = 16 := by kernel_rfl
@[go_sem] theorem zeroD_20 : zeroD Try.prog 20 = [.v .nilIface] := by kernel_rfl
@[go_sem] theorem okT_21 : okT Try.prog 21 = true := by kernel_rfl
@[go_sem] theorem szOf_21 : szOf Try.prog 21 = 1 := by kernel_rfl
@[go_sem] theorem aggT_21 : aggT Try.prog 21 = false := by kernel_rfl
@[go_sem] theorem undS_21 : (Try.prog.underlying 21).isSome = true := by kernel_rfl
@[go_sem] theorem infS_21 : (Try.prog.info? 21).isSome = true := by kernel_rfl
@[go_sem] theorem ifaceT_21 : ifaceT Try.prog 21 = false := by kernel_rfl
@[go_sem] theorem ptrT_21 : ptrT Try.prog 21 = false := by kernel_rfl
@[go_sem] theorem zeroT_21 : zeroT Try.prog 21 = true := by kernel_rfl
@[go_sem] theorem zeroOk_21 : zeroOk Try.prog 21 = true := by kernel_rfl
@[go_sem] theorem bytesOf_21 : bytesOf Try.prog 21 = 4 := by kernel_rfl
@[go_sem] theorem zeroD_21 : zeroD Try.prog 21 = [.v (.int .i32 0)] := by kernel_rfl
@[go_sem] theorem okT_22 : okT Try.prog 22 = true := by kernel_rfl
@[go_sem] theorem szOf_22 : szOf Try.prog 22 = 1 := by kernel_rfl
@[go_sem] theorem aggT_22 : aggT Try.prog 22 = false := by kernel_rfl
@[go_sem] theorem undS_22 : (Try.prog.underlying 22).isSome = true := by kernel_rfl
@[go_sem] theorem infS_22 : (Try.prog.info? 22).isSome = true := by kernel_rfl
@[go_sem] theorem ifaceT_22 : ifaceT Try.prog 22 = false := by kernel_rfl
@[go_sem] theorem ptrT_22 : ptrT Try.prog 22 = false := by kernel_rfl
@[go_sem] theorem zeroT_22 : zeroT Try.prog 22 = true := by kernel_rfl
@[go_sem] theorem zeroOk_22 : zeroOk Try.prog 22 = true := by kernel_rfl
@[go_sem] theorem bytesOf_22 : bytesOf Try.prog 22 = 24 := by kernel_rfl
@[go_sem] theorem zeroD_22 : zeroD Try.prog 22 = [.sl .full []] := by kernel_rfl
@[go_sem] theorem elT_22 : elT Try.prog 22 = some 9 := by kernel_rfl
@[go_sem] theorem bul_22 (own : Own) (es : List D) (ty : TypeId) (cs : Array Bool) : dbuiltin Try.prog .len #[22] ty cs [.sl own es] = some (True, .v (.int .i64 es.length)) := bu_len own es _ ty cs elT_22
@[go_sem] theorem okT_23 : okT Try.prog 23 = true := by kernel_rfl
@[go_sem] theorem szOf_23 : szOf Try.prog 23 = 1 := by kernel_rfl
@[go_sem] theorem aggT_23 : aggT Try.prog 23 = false := by kernel_rfl
@[go_sem] theorem undS_23 : (Try.prog.underlying 23).isSome = true := by kernel_rfl
@[go_sem] theorem infS_23 : (Try.prog.info? 23).isSome = true := by kernel_rfl
@[go_sem] theorem ifaceT_23 : ifaceT Try.prog 23 = false := by kernel_rfl
@[go_sem] theorem ptrT_23 : ptrT Try.prog 23 = false := by kernel_rfl
@[go_sem] theorem zeroT_23 : zeroT Try.prog 23 = true := by kernel_rfl
@[go_sem] theorem zeroOk_23 : zeroOk Try.prog 23 = true := by kernel_rfl
@[go_sem] theorem bytesOf_23 : bytesOf Try.prog 23 = 24 := by kernel_rfl
@[go_sem] theorem zeroD_23 : zeroD Try.prog 23 = [.sl .full []] := by kernel_rfl
@[go_sem] theorem elT_23 : elT Try.prog 23 = some 25 := by kernel_rfl
@[go_sem] theorem bul_23 (own : Own) (es : List D) (ty : TypeId) (cs : Array Bool) : dbuiltin Try.prog .len #[23] ty cs [.sl own es] = some (True, .v (.int .i64 es.length)) := bu_len own es _ ty cs elT_23
@[go_sem] theorem okT_25 : okT Try.prog 25 = true := by kernel_rfl
@[go_sem] theorem szOf_25 : szOf Try.prog 25 = 3 := by kernel_rfl
@[go_sem] theorem aggT_25 : aggT Try.prog 25 = true := by kernel_rfl
@[go_sem] theorem undS_25 : (Try.prog.underlying 25).isSome = true := by kernel_rfl
@[go_sem] theorem infS_25 : (Try.prog.info? 25).isSome = true := by kernel_rfl
@[go_sem] theorem ifaceT_25 : ifaceT Try.prog 25 = false := by kernel_rfl
@[go_sem] theorem ptrT_25 : ptrT Try.prog 25 = false := by kernel_rfl
@[go_sem] theorem zeroT_25 : zeroT Try.prog 25 = true := by kernel_rfl
@[go_sem] theorem zeroOk_25 : zeroOk Try.prog 25 = true := by kernel_rfl
@[go_sem] theorem bytesOf_25 : bytesOf Try.prog 25 = 56 := by kernel_rfl
@[go_sem] theorem zeroD_25 : zeroD Try.prog 25 = [.v (.int .i64 0), .sl .full [], .sl .full []] := by kernel_rfl
@[go_sem] theorem fld_25_0 : fld Try.prog 25 0 = some (0, 3) := by kernel_rfl
@[go_sem] theorem fld_25_1 : fld Try.prog 25 1 = some (1, 22) := by kernel_rfl
@[go_sem] theorem fld_25_2 : fld Try.prog 25 2 = some (2, 23) := by kernel_rfl
noncomputable def pl25 : Nat → Option (Nat × Nat) := (placeT Try.prog 25).getD fun _ => none
@[go_sem] theorem placeT_25 : placeT Try.prog 25 = some pl25 := by kernel_rfl
@[go_sem] theorem pl_25_0 : pl25 0 = some (0, 1) := by kernel_rfl
@[go_sem] theorem pl_25_1 : pl25 1 = some (1, 1) := by kernel_rfl
@[go_sem] theorem pl_25_2 : pl25 2 = some (2, 1) := by kernel_rfl
@[go_sem] theorem okT_26 : okT Try.prog 26 = true := by kernel_rfl
@[go_sem] theorem szOf_26 : szOf Try.prog 26 = 1 := by kernel_rfl
@[go_sem] theorem aggT_26 : aggT Try.prog 26 = false := by kernel_rfl
@[go_sem] theorem undS_26 : (Try.prog.underlying 26).isSome = true := by kernel_rfl
@[go_sem] theorem infS_26 : (Try.prog.info? 26).isSome = true := by kernel_rfl
@[go_sem] theorem ifaceT_26 : ifaceT Try.prog 26 = false := by kernel_rfl
@[go_sem] theorem ptrT_26 : ptrT Try.prog 26 = false := by kernel_rfl
@[go_sem] theorem zeroT_26 : zeroT Try.prog 26 = true := by kernel_rfl
@[go_sem] theorem zeroOk_26 : zeroOk Try.prog 26 = true := by kernel_rfl
@[go_sem] theorem bytesOf_26 : bytesOf Try.prog 26 = 8 := by kernel_rfl
@[go_sem] theorem zeroD_26 : zeroD Try.prog 26 = [.v .nilFunc] := by kernel_rfl
@[go_sem] theorem okT_28 : okT Try.prog 28 = true := by kernel_rfl
@[go_sem] theorem szOf_28 : szOf Try.prog 28 = 1 := by kernel_rfl
@[go_sem] theorem aggT_28 : aggT Try.prog 28 = false := by kernel_rfl
@[go_sem] theorem undS_28 : (Try.prog.underlying 28).isSome = true := by kernel_rfl
@[go_sem] theorem infS_28 : (Try.prog.info? 28).isSome = true := by kernel_rfl
@[go_sem] theorem ifaceT_28 : ifaceT Try.prog 28 = false := by kernel_rfl
@[go_sem] theorem ptrT_28 : ptrT Try.prog 28 = false := by kernel_rfl
@[go_sem] theorem zeroT_28 : zeroT Try.prog 28 = true := by kernel_rfl
@[go_sem] theorem zeroOk_28 : zeroOk Try.prog 28 = true := by kernel_rfl
@[go_sem] theorem bytesOf_28 : bytesOf Try.prog 28 = 24 := by kernel_rfl
@[go_sem] theorem zeroD_28 : zeroD Try.prog 28 = [.sl .full []] := by kernel_rfl
@[go_sem] theorem elT_28 : elT Try.prog 28 = some 52 := by kernel_rfl
@[go_sem] theorem bul_28 (own : Own) (es : List D) (ty : TypeId) (cs : Array Bool) : dbuiltin Try.prog .len #[28] ty cs [.sl own es] = some (True, .v (.int .i64 es.length)) := bu_len own es _ ty cs elT_28
@[go_sem] theorem okT_29 : okT Try.prog 29 = true := by kernel_rfl
@[go_sem] theorem szOf_29 : szOf Try.prog 29 = 1 := by kernel_rfl
@[go_sem] theorem aggT_29 : aggT Try.prog 29 = false := by kernel_rfl
@[go_sem] theorem undS_29 : (Try.prog.underlying 29).isSome = true := by kernel_rfl
@[go_sem] theorem infS_29 : (Try.prog.info? 29).isSome = true := by kernel_rfl
@[go_sem] theorem ifaceT_29 : ifaceT Try.prog 29 = false := by kernel_rfl
@[go_sem] theorem ptrT_29 : ptrT Try.prog 29 = false := by kernel_rfl
@[go_sem] theorem zeroT_29 : zeroT Try.prog 29 = true := by kernel_rfl
@[go_sem] theorem zeroOk_29 : zeroOk Try.prog 29 = true := by kernel_rfl
@[go_sem] theorem bytesOf_29 : bytesOf Try.prog 29 = 24 := by kernel_rfl
@[go_sem] theorem zeroD_29 : zeroD Try.prog 29 = [.sl .full []] := by kernel_rfl
@[go_sem] theorem elT_29 : elT Try.prog 29 = some 31 := by kernel_rfl
@[go_sem] theorem bul_29 (own : Own) (es : List D) (ty : TypeId) (cs : Array Bool) : dbuiltin Try.prog .len #[29] ty cs [.sl own es] = some (True, .v (.int .i64 es.length)) := bu_len own es _ ty cs elT_29
@[go_sem] theorem okT_30 : okT Try.prog 30 = true := by kernel_rfl
@[go_sem] theorem szOf_30 : szOf Try.prog 30 = 6 := by kernel_rfl
@[go_sem] theorem aggT_30 : aggT Try.prog 30 = true := by kernel_rfl
@[go_sem] theorem undS_30 : (Try.prog.underlying 30).isSome = true := by kernel_rfl
@[go_sem] theorem infS_30 : (Try.prog.info? 30).isSome = true := by kernel_rfl
@[go_sem] theorem ifaceT_30 : ifaceT Try.prog 30 = false := by kernel_rfl
@[go_sem] theorem ptrT_30 : ptrT Try.prog 30 = false := by kernel_rfl
@[go_sem] theorem zeroT_30 : zeroT Try.prog 30 = true := by kernel_rfl
@[go_sem] theorem zeroOk_30 : zeroOk Try.prog 30 = true := by kernel_rfl
@[go_sem] theorem bytesOf_30 : bytesOf Try.prog 30 = 104 := by kernel_rfl
@[go_sem] theorem zeroD_30 : zeroD Try.prog 30 = [.v (.int .i64 0), .v (.int .i64 0), .v (.string ⟨#[]⟩), .sl .full [], .sl .full [], .sl .full []] := by kernel_rfl
@[go_sem] theorem fld_30_0 : fld Try.prog 30 0 = some (0, 3) := by kernel_rfl
@[go_sem] theorem fld_30_1 : fld Try.prog 30 1 = some (1, 3) := by kernel_rfl
@[go_sem] theorem fld_30_2 : fld Try.prog 30 2 = some (2, 9) := by kernel_rfl
@[go_sem] theorem fld_30_3 : fld Try.prog 30 3 = some (3, 22) := by kernel_rfl
@[go_sem] theorem fld_30_4 : fld Try.prog 30 4 = some (4, 28) := by kernel_rfl
@[go_sem] theorem fld_30_5 : fld Try.prog 30 5 = some (5, 29) := by kernel_rfl
noncomputable def pl30 : Nat → Option (Nat × Nat) := (placeT Try.prog 30).getD fun _ => none
@[go_sem] theorem placeT_30 : placeT Try.prog 30 = some pl30 := by kernel_rfl
@[go_sem] theorem pl_30_0 : pl30 0 = some (0, 1) := by kernel_rfl
@[go_sem] theorem pl_30_1 : pl30 1 = some (1, 1) := by kernel_rfl
@[go_sem] theorem pl_30_2 : pl30 2 = some (2, 1) := by kernel_rfl
@[go_sem] theorem pl_30_3 : pl30 3 = some (3, 1) := by kernel_rfl
@[go_sem] theorem pl_30_4 : pl30 4 = some (4, 1) := by kernel_rfl
@[go_sem] theorem pl_30_5 : pl30 5 = some (5, 1) := by kernel_rfl
@[go_sem] theorem okT_31 : okT Try.prog 31 = true := by kernel_rfl
@[go_sem] theorem szOf_31 : szOf Try.prog 31 = 6 := by kernel_rfl
@[go_sem] theorem aggT_31 : aggT Try.prog 31 = true := by kernel_rfl
@[go_sem] theorem undS_31 : (Try.prog.underlying 31).isSome = true := by kernel_rfl
@[go_sem] theorem infS_31 : (Try.prog.info? 31).isSome = true := by kernel_rfl
@[go_sem] theorem ifaceT_31 : ifaceT Try.prog 31 = false := by kernel_rfl
@[go_sem] theorem ptrT_31 : ptrT Try.prog 31 = false := by kernel_rfl
@[go_sem] theorem zeroT_31 : zeroT Try.prog 31 = true := by kernel_rfl
@[go_sem] theorem zeroOk_31 : zeroOk Try.prog 31 = true := by kernel_rfl
@[go_sem] theorem bytesOf_31 : bytesOf Try.prog 31 = 104 := by kernel_rfl
@[go_sem] theorem zeroD_31 : zeroD Try.prog 31 = [.v (.int .i64 0), .v (.int .i64 0), .v (.string ⟨#[]⟩), .sl .full [], .sl .full [], .sl .full []] := by kernel_rfl
@[go_sem] theorem fld_31_0 : fld Try.prog 31 0 = some (0, 3) := by kernel_rfl
@[go_sem] theorem fld_31_1 : fld Try.prog 31 1 = some (1, 3) := by kernel_rfl
@[go_sem] theorem fld_31_2 : fld Try.prog 31 2 = some (2, 9) := by kernel_rfl
@[go_sem] theorem fld_31_3 : fld Try.prog 31 3 = some (3, 22) := by kernel_rfl
@[go_sem] theorem fld_31_4 : fld Try.prog 31 4 = some (4, 28) := by kernel_rfl
@[go_sem] theorem fld_31_5 : fld Try.prog 31 5 = some (5, 29) := by kernel_rfl
noncomputable def pl31 : Nat → Option (Nat × Nat) := (placeT Try.prog 31).getD fun _ => none
@[go_sem] theorem placeT_31 : placeT Try.prog 31 = some pl31 := by kernel_rfl
@[go_sem] theorem pl_31_0 : pl31 0 = some (0, 1) := by kernel_rfl
@[go_sem] theorem pl_31_1 : pl31 1 = some (1, 1) := by kernel_rfl
@[go_sem] theorem pl_31_2 : pl31 2 = some (2, 1) := by kernel_rfl
@[go_sem] theorem pl_31_3 : pl31 3 = some (3, 1) := by kernel_rfl
@[go_sem] theorem pl_31_4 : pl31 4 = some (4, 1) := by kernel_rfl
@[go_sem] theorem pl_31_5 : pl31 5 = some (5, 1) := by kernel_rfl
@[go_sem] theorem okT_32 : okT Try.prog 32 = true := by kernel_rfl
@[go_sem] theorem szOf_32 : szOf Try.prog 32 = 1 := by kernel_rfl
@[go_sem] theorem aggT_32 : aggT Try.prog 32 = false := by kernel_rfl
@[go_sem] theorem undS_32 : (Try.prog.underlying 32).isSome = true := by kernel_rfl
@[go_sem] theorem infS_32 : (Try.prog.info? 32).isSome = true := by kernel_rfl
@[go_sem] theorem ifaceT_32 : ifaceT Try.prog 32 = false := by kernel_rfl
@[go_sem] theorem ptrT_32 : ptrT Try.prog 32 = false := by kernel_rfl
@[go_sem] theorem zeroT_32 : zeroT Try.prog 32 = true := by kernel_rfl
@[go_sem] theorem zeroOk_32 : zeroOk Try.prog 32 = true := by kernel_rfl
@[go_sem] theorem bytesOf_32 : bytesOf Try.prog 32 = 8 := by kernel_rfl
@[go_sem] theorem zeroD_32 : zeroD Try.prog 32 = [.v .nilFunc] := by kernel_rfl
@[go_sem] theorem okT_33 : okT Try.prog 33 = true := by kernel_rfl
@[go_sem] theorem szOf_33 : szOf Try.prog 33 = 1 := by kernel_rfl
@[go_sem] theorem aggT_33 : aggT Try.prog 33 = false := by kernel_rfl
@[go_sem] theorem undS_33 : (Try.prog.underlying 33).isSome = true := by kernel_rfl
@[go_sem] theorem infS_33 : (Try.prog.info? 33).isSome = true := by kernel_rfl
@[go_sem] theorem ifaceT_33 : ifaceT Try.prog 33 = false := by kernel_rfl
@[go_sem] theorem ptrT_33 : ptrT Try.prog 33 = false := by kernel_rfl
@[go_sem] theorem zeroT_33 : zeroT Try.prog 33 = true := by kernel_rfl
@[go_sem] theorem zeroOk_33 : zeroOk Try.prog 33 = true := by kernel_rfl
@[go_sem] theorem bytesOf_33 : bytesOf Try.prog 33 = 8 := by kernel_rfl
@[go_sem] theorem zeroD_33 : zeroD Try.prog 33 = [.v .nilFunc] := by kernel_rfl
@[go_sem] theorem okT_34 : okT Try.prog 34 = true := by kernel_rfl
@[go_sem] theorem szOf_34 : szOf Try.prog 34 = 1 := by kernel_rfl
@[go_sem] theorem aggT_34 : aggT Try.prog 34 = false := by kernel_rfl
@[go_sem] theorem undS_34 : (Try.prog.underlying 34).isSome = true := by kernel_rfl
@[go_sem] theorem infS_34 : (Try.prog.info? 34).isSome = true := by kernel_rfl
@[go_sem] theorem ifaceT_34 : ifaceT Try.prog 34 = false := by kernel_rfl
@[go_sem] theorem ptrT_34 : ptrT Try.prog 34 = false := by kernel_rfl
@[go_sem] theorem zeroT_34 : zeroT Try.prog 34 = true := by kernel_rfl
@[go_sem] theorem zeroOk_34 : zeroOk Try.prog 34 = true := by kernel_rfl
@[go_sem] theorem bytesOf_34 : bytesOf Try.prog 34 = 8 := by kernel_rfl
@[go_sem] theorem zeroD_34 : zeroD Try.prog 34 = [.v .nilFunc] := by kernel_rfl
@[go_sem] theorem okT_35 : okT Try.prog 35 = true := by kernel_rfl
@[go_sem] theorem szOf_35 : szOf Try.prog 35 = 1 := by kernel_rfl
@[go_sem] theorem aggT_35 : aggT Try.prog 35 = false := by kernel_rfl
@[go_sem] theorem undS_35 : (Try.prog.underlying 35).isSome = true := by kernel_rfl
@[go_sem] theorem infS_35 : (Try.prog.info? 35).isSome = true := by kernel_rfl
@[go_sem] theorem ifaceT_35 : ifaceT Try.prog 35 = false := by kernel_rfl
@[go_sem] theorem ptrT_35 : ptrT Try.prog 35 = false := by kernel_rfl
@[go_sem] theorem zeroT_35 : zeroT Try.prog 35 = true := by kernel_rfl
@[go_sem] theorem zeroOk_35 : zeroOk Try.prog 35 = true := by kernel_rfl
@[go_sem] theorem bytesOf_35 : bytesOf Try.prog 35 = 8 := by kernel_rfl
@[go_sem] theorem zeroD_35 : zeroD Try.prog 35 = [.v .nilFunc] := by kernel_rfl
@[go_sem] theorem okT_36 : okT Try.prog 36 = true := by kernel_rfl
@[go_sem] theorem szOf_36 : szOf Try.prog 36 = 1 := by kernel_rfl
@[go_sem] theorem aggT_36 : aggT Try.prog 36 = false := by kernel_rfl
@[go_sem] theorem undS_36 : (Try.prog.underlying 36).isSome = true := by kernel_rfl
@[go_sem] theorem infS_36 : (Try.prog.info? 36).isSome = true := by kernel_rfl
@[go_sem] theorem ifaceT_36 : ifaceT Try.prog 36 = false := by kernel_rfl
@[go_sem] theorem ptrT_36 : ptrT Try.prog 36 = false := by kernel_rfl
@[go_sem] theorem zeroT_36 : zeroT Try.prog 36 = true := by kernel_rfl
@[go_sem] theorem zeroOk_36 : zeroOk Try.prog 36 = true := by kernel_rfl
@[go_sem] theorem bytesOf_36 : bytesOf Try.prog 36 = 8 := by kernel_rfl
@[go_sem] theorem zeroD_36 : zeroD Try.prog 36 = [.v .nilFunc] := by kernel_rfl
@[go_sem] theorem okT_37 : okT Try.prog 37 = true := by kernel_rfl
@[go_sem] theorem szOf_37 : szOf Try.prog 37 = 1 := by kernel_rfl
@[go_sem] theorem aggT_37 : aggT Try.prog 37 = false := by kernel_rfl
@[go_sem] theorem undS_37 : (Try.prog.underlying 37).isSome = true := by kernel_rfl
@[go_sem] theorem infS_37 : (Try.prog.info? 37).isSome = true := by kernel_rfl
@[go_sem] theorem ifaceT_37 : ifaceT Try.prog 37 = false := by kernel_rfl
@[go_sem] theorem ptrT_37 : ptrT Try.prog 37 = false := by kernel_rfl
@[go_sem] theorem zeroT_37 : zeroT Try.prog 37 = true := by kernel_rfl
@[go_sem] theorem zeroOk_37 : zeroOk Try.prog 37 = true := by kernel_rfl
@[go_sem] theorem bytesOf_37 : bytesOf Try.prog 37 = 8 := by kernel_rfl
@[go_sem] theorem zeroD_37 : zeroD Try.prog 37 = [.v .nilFunc] := by kernel_rfl
@[go_sem] theorem okT_38 : okT Try.prog 38 = true := by kernel_rfl
@[go_sem] theorem szOf_38 : szOf Try.prog 38 = 1 := by kernel_rfl
@[go_sem] theorem aggT_38 : aggT Try.prog 38 = false := by kernel_rfl
@[go_sem] theorem undS_38 : (Try.prog.underlying 38).isSome = true := by kernel_rfl
@[go_sem] theorem infS_38 : (Try.prog.info? 38).isSome = true := by kernel_rfl
@[go_sem] theorem ifaceT_38 : ifaceT Try.prog 38 = false := by kernel_rfl
@[go_sem] theorem ptrT_38 : ptrT Try.prog 38 = false := by kernel_rfl
@[go_sem] theorem zeroT_38 : zeroT Try.prog 38 = true := by kernel_rfl
@[go_sem] theorem zeroOk_38 : zeroOk Try.prog 38 = true := by kernel_rfl
@[go_sem] theorem bytesOf_38 : bytesOf Try.prog 38 = 24 := by kernel_rfl
@[go_sem] theorem zeroD_38 : zeroD Try.prog 38 = [.sl .full []] := by kernel_rfl
@[go_sem] theorem elT_38 : elT Try.prog 38 = some 42 := by kernel_rfl
@[go_sem] theorem bul_38 (own : Own) (es : List D) (ty : TypeId) (cs : Array Bool) : dbuiltin Try.prog .len #[38] ty cs [.sl own es] = some (True, .v (.int .i64 es.length)) := bu_len own es _ ty cs elT_38
@[go_sem] theorem okT_42 : okT Try.prog 42 = true := by kernel_rfl
@[go_sem] theorem szOf_42 : szOf Try.prog 42 = 1 := by kernel_rfl
@[go_sem] theorem aggT_42 : aggT Try.prog 42 = false := by kernel_rfl
@[go_sem] theorem undS_42 : (Try.prog.underlying 42).isSome = true := by kernel_rfl
@[go_sem] theorem infS_42 : (Try.prog.info? 42).isSome = true := by kernel_rfl
@[go_sem] theorem ifaceT_42 : ifaceT Try.prog 42 = false := by kernel_rfl
@[go_sem] theorem ptrT_42 : ptrT Try.prog 42 = false := by kernel_rfl
@[go_sem] theorem zeroT_42 : zeroT Try.prog 42 = true := by kernel_rfl
@[go_sem] theorem zeroOk_42 : zeroOk Try.prog 42 = true := by kernel_rfl
@[go_sem] theorem bytesOf_42 : bytesOf Try.prog 42 = 24 := by kernel_rfl
@[go_sem] theorem zeroD_42 : zeroD Try.prog 42 = [.sl .full []] := by kernel_rfl
@[go_sem] theorem elT_42 : elT Try.prog 42 = some 81 := by kernel_rfl
@[go_sem] theorem bul_42 (own : Own) (es : List D) (ty : TypeId) (cs : Array Bool) : dbuiltin Try.prog .len #[42] ty cs [.sl own es] = some (True, .v (.int .i64 es.length)) := bu_len own es _ ty cs elT_42
@[go_sem] theorem okT_44 : okT Try.prog 44 = true := by kernel_rfl
@[go_sem] theorem szOf_44 : szOf Try.prog 44 = 1 := by kernel_rfl
@[go_sem] theorem aggT_44 : aggT Try.prog 44 = false := by kernel_rfl
@[go_sem] theorem undS_44 : (Try.prog.underlying 44).isSome = true := by kernel_rfl
@[go_sem] theorem infS_44 : (Try.prog.info? 44).isSome = true := by kernel_rfl
@[go_sem] theorem ifaceT_44 : ifaceT Try.prog 44 = false := by kernel_rfl
@[go_sem] theorem ptrT_44 : ptrT Try.prog 44 = false := by kernel_rfl
@[go_sem] theorem zeroT_44 : zeroT Try.prog 44 = true := by kernel_rfl
@[go_sem] theorem zeroOk_44 : zeroOk Try.prog 44 = true := by kernel_rfl
@[go_sem] theorem bytesOf_44 : bytesOf Try.prog 44 = 8 := by kernel_rfl
@[go_sem] theorem zeroD_44 : zeroD Try.prog 44 = [.v .nilFunc] := by kernel_rfl
@[go_sem] theorem okT_45 : okT Try.prog 45 = true := by kernel_rfl
@[go_sem] theorem szOf_45 : szOf Try.prog 45 = 1 := by kernel_rfl
@[go_sem] theorem aggT_45 : aggT Try.prog 45 = false := by kernel_rfl
@[go_sem] theorem undS_45 : (Try.prog.underlying 45).isSome = true := by kernel_rfl
@[go_sem] theorem infS_45 : (Try.prog.info? 45).isSome = true := by kernel_rfl
@[go_sem] theorem ifaceT_45 : ifaceT Try.prog 45 = false := by kernel_rfl
@[go_sem] theorem ptrT_45 : ptrT Try.prog 45 = false := by kernel_rfl
@[go_sem] theorem zeroT_45 : zeroT Try.prog 45 = true := by kernel_rfl
@[go_sem] theorem zeroOk_45 : zeroOk Try.prog 45 = true := by kernel_rfl
@[go_sem] theorem bytesOf_45 : bytesOf Try.prog 45 = 8 := by kernel_rfl
@[go_sem] theorem zeroD_45 : zeroD Try.prog 45 = [.v .nilFunc] := by kernel_rfl
@[go_sem] theorem okT_52 : okT Try.prog 52 = true := by kernel_rfl
@[go_sem] theorem szOf_52 : szOf Try.prog 52 = 1 := by kernel_rfl
@[go_sem] theorem aggT_52 : aggT Try.prog 52 = false := by kernel_rfl
@[go_sem] theorem undS_52 : (Try.prog.underlying 52).isSome = true := by kernel_rfl
@[go_sem] theorem infS_52 : (Try.prog.info? 52).isSome = true := by kernel_rfl
@[go_sem] theorem ifaceT_52 : ifaceT Try.prog 52 = false := by kernel_rfl
@[go_sem] theorem ptrT_52 : ptrT Try.prog 52 = false := by kernel_rfl
@[go_sem] theorem zeroT_52 : zeroT Try.prog 52 = true := by kernel_rfl
@[go_sem] theorem zeroOk_52 : zeroOk Try.prog 52 = true := by kernel_rfl
@[go_sem] theorem bytesOf_52 : bytesOf Try.prog 52 = 8 := by kernel_rfl
@[go_sem] theorem zeroD_52 : zeroD Try.prog 52 = [.v (.int .u64 0)] := by kernel_rfl
@[go_sem] theorem okT_59 : okT Try.prog 59 = true := by kernel_rfl
@[go_sem] theorem szOf_59 : szOf Try.prog 59 = 1 := by kernel_rfl
@[go_sem] theorem aggT_59 : aggT Try.prog 59 = false := by kernel_rfl
@[go_sem] theorem undS_59 : (Try.prog.underlying 59).isSome = true := by kernel_rfl
@[go_sem] theorem infS_59 : (Try.prog.info? 59).isSome = true := by kernel_rfl
@[go_sem] theorem ifaceT_59 : ifaceT Try.prog 59 = false := by kernel_rfl
@[go_sem] theorem ptrT_59 : ptrT Try.prog 59 = false := by kernel_rfl
@[go_sem] theorem zeroT_59 : zeroT Try.prog 59 = true := by kernel_rfl
@[go_sem] theorem zeroOk_59 : zeroOk Try.prog 59 = true := by kernel_rfl
@[go_sem] theorem bytesOf_59 : bytesOf Try.prog 59 = 8 := by kernel_rfl
@[go_sem] theorem zeroD_59 : zeroD Try.prog 59 = [.v .nilFunc] := by kernel_rfl
@[go_sem] theorem okT_61 : okT Try.prog 61 = true := by kernel_rfl
@[go_sem] theorem szOf_61 : szOf Try.prog 61 = 1 := by kernel_rfl
@[go_sem] theorem aggT_61 : aggT Try.prog 61 = false := by kernel_rfl
@[go_sem] theorem undS_61 : (Try.prog.underlying 61).isSome = true := by kernel_rfl
@[go_sem] theorem infS_61 : (Try.prog.info? 61).isSome = true := by kernel_rfl
@[go_sem] theorem ifaceT_61 : ifaceT Try.prog 61 = false := by kernel_rfl
@[go_sem] theorem ptrT_61 : ptrT Try.prog 61 = false := by kernel_rfl
@[go_sem] theorem zeroT_61 : zeroT Try.prog 61 = true := by kernel_rfl
@[go_sem] theorem zeroOk_61 : zeroOk Try.prog 61 = true := by kernel_rfl
@[go_sem] theorem bytesOf_61 : bytesOf Try.prog 61 = 24 := by kernel_rfl
@[go_sem] theorem zeroD_61 : zeroD Try.prog 61 = [.sl .full []] := by kernel_rfl
@[go_sem] theorem elT_61 : elT Try.prog 61 = some 5 := by kernel_rfl
@[go_sem] theorem bul_61 (own : Own) (es : List D) (ty : TypeId) (cs : Array Bool) : dbuiltin Try.prog .len #[61] ty cs [.sl own es] = some (True, .v (.int .i64 es.length)) := bu_len own es _ ty cs elT_61
@[go_sem] theorem okT_63 : okT Try.prog 63 = true := by kernel_rfl
@[go_sem] theorem szOf_63 : szOf Try.prog 63 = 1 := by kernel_rfl
@[go_sem] theorem aggT_63 : aggT Try.prog 63 = true := by kernel_rfl
@[go_sem] theorem undS_63 : (Try.prog.underlying 63).isSome = true := by kernel_rfl
@[go_sem] theorem infS_63 : (Try.prog.info? 63).isSome = true := by kernel_rfl
@[go_sem] theorem ifaceT_63 : ifaceT Try.prog 63 = false := by kernel_rfl
@[go_sem] theorem ptrT_63 : ptrT Try.prog 63 = false := by kernel_rfl
@[go_sem] theorem zeroT_63 : zeroT Try.prog 63 = true := by kernel_rfl
@[go_sem] theorem zeroOk_63 : zeroOk Try.prog 63 = true := by kernel_rfl
@[go_sem] theorem bytesOf_63 : bytesOf Try.prog 63 = 24 := by kernel_rfl
@[go_sem] theorem zeroD_63 : zeroD Try.prog 63 = [.sl .full []] := by kernel_rfl
@[go_sem] theorem fld_63_0 : fld Try.prog 63 0 = some (0, 61) := by kernel_rfl
noncomputable def pl63 : Nat → Option (Nat × Nat) := (placeT Try.prog 63).getD fun _ => none
@[go_sem] theorem placeT_63 : placeT Try.prog 63 = some pl63 := by kernel_rfl
@[go_sem] theorem pl_63_0 : pl63 0 = some (0, 1) := by kernel_rfl
@[go_sem] theorem okT_65 : okT Try.prog 65 = true := by kernel_rfl
@[go_sem] theorem szOf_65 : szOf Try.prog 65 = 1 := by kernel_rfl
@[go_sem] theorem aggT_65 : aggT Try.prog 65 = false := by kernel_rfl
@[go_sem] theorem undS_65 : (Try.prog.underlying 65).isSome = true := by kernel_rfl
@[go_sem] theorem infS_65 : (Try.prog.info? 65).isSome = true := by kernel_rfl
@[go_sem] theorem ifaceT_65 : ifaceT Try.prog 65 = false := by kernel_rfl
@[go_sem] theorem ptrT_65 : ptrT Try.prog 65 = true := by kernel_rfl
@[go_sem] theorem zeroT_65 : zeroT Try.prog 65 = true := by kernel_rfl
@[go_sem] theorem zeroOk_65 : zeroOk Try.prog 65 = true := by kernel_rfl
@[go_sem] theorem bytesOf_65 : bytesOf Try.prog 65 = 8 := by kernel_rfl
@[go_sem] theorem zeroD_65 : zeroD Try.prog 65 = [.v (.pointer none)] := by kernel_rfl
@[go_sem] theorem okT_67 : okT Try.prog 67 = true := by kernel_rfl
@[go_sem] theorem szOf_67 : szOf Try.prog 67 = 1 := by kernel_rfl
@[go_sem] theorem aggT_67 : aggT Try.prog 67 = false := by kernel_rfl
@[go_sem] theorem undS_67 : (Try.prog.underlying 67).isSome = true := by kernel_rfl
@[go_sem] theorem infS_67 : (Try.prog.info? 67).isSome = true := by kernel_rfl
@[go_sem] theorem ifaceT_67 : ifaceT Try.prog 67 = false := by kernel_rfl
@[go_sem] theorem ptrT_67 : ptrT Try.prog 67 = true := by kernel_rfl
@[go_sem] theorem zeroT_67 : zeroT Try.prog 67 = true := by kernel_rfl
@[go_sem] theorem zeroOk_67 : zeroOk Try.prog 67 = true := by kernel_rfl
@[go_sem] theorem bytesOf_67 : bytesOf Try.prog 67 = 8 := by kernel_rfl
@[go_sem] theorem zeroD_67 : zeroD Try.prog 67 = [.v (.pointer none)] := by kernel_rfl
@[go_sem] theorem okT_73 : okT Try.prog 73 = true := by kernel_rfl
@[go_sem] theorem szOf_73 : szOf Try.prog 73 = 1 := by kernel_rfl
@[go_sem] theorem aggT_73 : aggT Try.prog 73 = false := by kernel_rfl
@[go_sem] theorem undS_73 : (Try.prog.underlying 73).isSome = true := by kernel_rfl
@[go_sem] theorem infS_73 : (Try.prog.info? 73).isSome = true := by kernel_rfl
@[go_sem] theorem ifaceT_73 : ifaceT Try.prog 73 = true := by kernel_rfl
@[go_sem] theorem ptrT_73 : ptrT Try.prog 73 = false := by kernel_rfl
@[go_sem] theorem zeroT_73 : zeroT Try.prog 73 = true := by kernel_rfl
@[go_sem] theorem zeroOk_73 : zeroOk Try.prog 73 = true := by kernel_rfl
@[go_sem] theorem bytesOf_73 : bytesOf Try.prog 73 = 16 := by kernel_rfl
@[go_sem] theorem zeroD_73 : zeroD Try.prog 73 = [.v .nilIface] := by kernel_rfl
@[go_sem] theorem okT_81 : okT Try.prog 81 = true := by kernel_rfl
@[go_sem] theorem szOf_81 : szOf Try.prog 81 = 2 := by kernel_rfl
@[go_sem] theorem aggT_81 : aggT Try.prog 81 = true := by kernel_rfl
@[go_sem] theorem undS_81 : (Try.prog.underlying 81).isSome = true := by kernel_rfl
@[go_sem] theorem infS_81 : (Try.prog.info? 81).isSome = true := by kernel_rfl
@[go_sem] theorem ifaceT_81 : ifaceT Try.prog 81 = false := by kernel_rfl
@[go_sem] theorem ptrT_81 : ptrT Try.prog 81 = false := by kernel_rfl
@[go_sem] theorem zeroT_81 : zeroT Try.prog 81 = true := by kernel_rfl
@[go_sem] theorem zeroOk_81 : zeroOk Try.prog 81 = true := by kernel_rfl
@[go_sem] theorem bytesOf_81 : bytesOf Try.prog 81 = 24 := by kernel_rfl
@[go_sem] theorem zeroD_81 : zeroD Try.prog 81 = [.v (.string ⟨#[]⟩), .v (.int .u64 0)] := by kernel_rfl
@[go_sem] theorem fld_81_0 : fld Try.prog 81 0 = some (0, 9) := by kernel_rfl
@[go_sem] theorem fld_81_1 : fld Try.prog 81 1 = some (1, 52) := by kernel_rfl
noncomputable def pl81 : Nat → Option (Nat × Nat) := (placeT Try.prog 81).getD fun _ => none
@[go_sem] theorem placeT_81 : placeT Try.prog 81 = some pl81 := by kernel_rfl
@[go_sem] theorem pl_81_0 : pl81 0 = some (0, 1) := by kernel_rfl
@[go_sem] theorem pl_81_1 : pl81 1 = some (1, 1) := by kernel_rfl
@[go_sem] theorem okT_95 : okT Try.prog 95 = true := by kernel_rfl
@[go_sem] theorem szOf_95 : szOf Try.prog 95 = 1 := by kernel_rfl
@[go_sem] theorem aggT_95 : aggT Try.prog 95 = false := by kernel_rfl
@[go_sem] theorem undS_95 : (Try.prog.underlying 95).isSome = true := by kernel_rfl
@[go_sem] theorem infS_95 : (Try.prog.info? 95).isSome = true := by kernel_rfl
@[go_sem] theorem ifaceT_95 : ifaceT Try.prog 95 = false := by kernel_rfl
@[go_sem] theorem ptrT_95 : ptrT Try.prog 95 = false := by kernel_rfl
@[go_sem] theorem zeroT_95 : zeroT Try.prog 95 = true := by kernel_rfl
@[go_sem] theorem zeroOk_95 : zeroOk Try.prog 95 = true := by kernel_rfl
@[go_sem] theorem bytesOf_95 : bytesOf Try.prog 95 = 8 := by kernel_rfl
@[go_sem] theorem zeroD_95 : zeroD Try.prog 95 = [.v .nilFunc] := by kernel_rfl
@[go_sem] theorem okT_97 : okT Try.prog 97 = true := by kernel_rfl
@[go_sem] theorem szOf_97 : szOf Try.prog 97 = 3 := by kernel_rfl
@[go_sem] theorem aggT_97 : aggT Try.prog 97 = true := by kernel_rfl
@[go_sem] theorem undS_97 : (Try.prog.underlying 97).isSome = true := by kernel_rfl
@[go_sem] theorem infS_97 : (Try.prog.info? 97).isSome = true := by kernel_rfl
@[go_sem] theorem ifaceT_97 : ifaceT Try.prog 97 = false := by kernel_rfl
@[go_sem] theorem ptrT_97 : ptrT Try.prog 97 = false := by kernel_rfl
@[go_sem] theorem zeroT_97 : zeroT Try.prog 97 = true := by kernel_rfl
@[go_sem] theorem zeroOk_97 : zeroOk Try.prog 97 = true := by kernel_rfl
@[go_sem] theorem bytesOf_97 : bytesOf Try.prog 97 = 48 := by kernel_rfl
@[go_sem] theorem zeroD_97 : zeroD Try.prog 97 = [.sl .full [], .v (.int .i64 0), .v .nilIface] := by kernel_rfl
@[go_sem] theorem fld_97_0 : fld Try.prog 97 0 = some (0, 61) := by kernel_rfl
@[go_sem] theorem fld_97_1 : fld Try.prog 97 1 = some (1, 3) := by kernel_rfl
@[go_sem] theorem fld_97_2 : fld Try.prog 97 2 = some (2, 73) := by kernel_rfl
noncomputable def pl97 : Nat → Option (Nat × Nat) := (placeT Try.prog 97).getD fun _ => none
@[go_sem] theorem placeT_97 : placeT Try.prog 97 = some pl97 := by kernel_rfl
@[go_sem] theorem pl_97_0 : pl97 0 = some (0, 1) := by kernel_rfl
@[go_sem] theorem pl_97_1 : pl97 1 = some (1, 1) := by kernel_rfl
@[go_sem] theorem pl_97_2 : pl97 2 = some (2, 1) := by kernel_rfl
@[go_sem] theorem okT_100 : okT Try.prog 100 = true := by kernel_rfl
@[go_sem] theorem szOf_100 : szOf Try.prog 100 = 1 := by kernel_rfl
@[go_sem] theorem aggT_100 : aggT Try.prog 100 = false := by kernel_rfl
@[go_sem] theorem undS_100 : (Try.prog.underlying 100).isSome = true := by kernel_rfl
@[go_sem] theorem infS_100 : (Try.prog.info? 100).isSome = true := by kernel_rfl
@[go_sem] theorem ifaceT_100 : ifaceT Try.prog 100 = false := by kernel_rfl
@[go_sem] theorem ptrT_100 : ptrT Try.prog 100 = false := by kernel_rfl
@[go_sem] theorem zeroT_100 : zeroT Try.prog 100 = true := by kernel_rfl
@[go_sem] theorem zeroOk_100 : zeroOk Try.prog 100 = true := by kernel_rfl
@[go_sem] theorem bytesOf_100 : bytesOf Try.prog 100 = 8 := by kernel_rfl
@[go_sem] theorem zeroD_100 : zeroD Try.prog 100 = [.v (.int .i64 0)] := by kernel_rfl
@[go_sem] theorem okT_118 : okT Try.prog 118 = true := by kernel_rfl
@[go_sem] theorem szOf_118 : szOf Try.prog 118 = 1 := by kernel_rfl
@[go_sem] theorem aggT_118 : aggT Try.prog 118 = false := by kernel_rfl
@[go_sem] theorem undS_118 : (Try.prog.underlying 118).isSome = true := by kernel_rfl
@[go_sem] theorem infS_118 : (Try.prog.info? 118).isSome = true := by kernel_rfl
@[go_sem] theorem ifaceT_118 : ifaceT Try.prog 118 = false := by kernel_rfl
@[go_sem] theorem ptrT_118 : ptrT Try.prog 118 = false := by kernel_rfl
@[go_sem] theorem zeroT_118 : zeroT Try.prog 118 = true := by kernel_rfl
@[go_sem] theorem zeroOk_118 : zeroOk Try.prog 118 = true := by kernel_rfl
@[go_sem] theorem bytesOf_118 : bytesOf Try.prog 118 = 8 := by kernel_rfl
@[go_sem] theorem zeroD_118 : zeroD Try.prog 118 = [.v .nilFunc] := by kernel_rfl
@[go_sem] theorem okT_125 : okT Try.prog 125 = true := by kernel_rfl
@[go_sem] theorem szOf_125 : szOf Try.prog 125 = 1 := by kernel_rfl
@[go_sem] theorem aggT_125 : aggT Try.prog 125 = false := by kernel_rfl
@[go_sem] theorem undS_125 : (Try.prog.underlying 125).isSome = true := by kernel_rfl
@[go_sem] theorem infS_125 : (Try.prog.info? 125).isSome = true := by kernel_rfl
@[go_sem] theorem ifaceT_125 : ifaceT Try.prog 125 = false := by kernel_rfl
@[go_sem] theorem ptrT_125 : ptrT Try.prog 125 = false := by kernel_rfl
@[go_sem] theorem zeroT_125 : zeroT Try.prog 125 = true := by kernel_rfl
@[go_sem] theorem zeroOk_125 : zeroOk Try.prog 125 = true := by kernel_rfl
@[go_sem] theorem bytesOf_125 : bytesOf Try.prog 125 = 8 := by kernel_rfl
@[go_sem] theorem zeroD_125 : zeroD Try.prog 125 = [.v .nilFunc] := by kernel_rfl
@[go_sem] theorem okT_127 : okT Try.prog 127 = true := by kernel_rfl
@[go_sem] theorem szOf_127 : szOf Try.prog 127 = 1 := by kernel_rfl
@[go_sem] theorem aggT_127 : aggT Try.prog 127 = false := by kernel_rfl
@[go_sem] theorem undS_127 : (Try.prog.underlying 127).isSome = true := by kernel_rfl
@[go_sem] theorem infS_127 : (Try.prog.info? 127).isSome = true := by kernel_rfl
@[go_sem] theorem ifaceT_127 : ifaceT Try.prog 127 = false := by kernel_rfl
@[go_sem] theorem ptrT_127 : ptrT Try.prog 127 = false := by kernel_rfl
@[go_sem] theorem zeroT_127 : zeroT Try.prog 127 = true := by kernel_rfl
@[go_sem] theorem zeroOk_127 : zeroOk Try.prog 127 = true := by kernel_rfl
@[go_sem] theorem bytesOf_127 : bytesOf Try.prog 127 = 24 := by kernel_rfl
@[go_sem] theorem zeroD_127 : zeroD Try.prog 127 = [.sl .full []] := by kernel_rfl
@[go_sem] theorem elT_127 : elT Try.prog 127 = some 73 := by kernel_rfl
@[go_sem] theorem bul_127 (own : Own) (es : List D) (ty : TypeId) (cs : Array Bool) : dbuiltin Try.prog .len #[127] ty cs [.sl own es] = some (True, .v (.int .i64 es.length)) := bu_len own es _ ty cs elT_127
@[go_sem] theorem okT_128 : okT Try.prog 128 = true := by kernel_rfl
@[go_sem] theorem szOf_128 : szOf Try.prog 128 = 1 := by kernel_rfl
@[go_sem] theorem aggT_128 : aggT Try.prog 128 = false := by kernel_rfl
@[go_sem] theorem undS_128 : (Try.prog.underlying 128).isSome = true := by kernel_rfl
@[go_sem] theorem infS_128 : (Try.prog.info? 128).isSome = true := by kernel_rfl
@[go_sem] theorem ifaceT_128 : ifaceT Try.prog 128 = false := by kernel_rfl
@[go_sem] theorem ptrT_128 : ptrT Try.prog 128 = true := by kernel_rfl
@[go_sem] theorem zeroT_128 : zeroT Try.prog 128 = true := by kernel_rfl
@[go_sem] theorem zeroOk_128 : zeroOk Try.prog 128 = true := by kernel_rfl
@[go_sem] theorem bytesOf_128 : bytesOf Try.prog 128 = 8 := by kernel_rfl
@[go_sem] theorem zeroD_128 : zeroD Try.prog 128 = [.v (.pointer none)] := by kernel_rfl
@[go_sem] theorem okT_130 : okT Try.prog 130 = true := by kernel_rfl
@[go_sem] theorem szOf_130 : szOf Try.prog 130 = 2 := by kernel_rfl
@[go_sem] theorem aggT_130 : aggT Try.prog 130 = true := by kernel_rfl
@[go_sem] theorem undS_130 : (Try.prog.underlying 130).isSome = true := by kernel_rfl
@[go_sem] theorem infS_130 : (Try.prog.info? 130).isSome = true := by kernel_rfl
@[go_sem] theorem ifaceT_130 : ifaceT Try.prog 130 = false := by kernel_rfl
@[go_sem] theorem ptrT_130 : ptrT Try.prog 130 = false := by kernel_rfl
@[go_sem] theorem zeroT_130 : zeroT Try.prog 130 = true := by kernel_rfl
@[go_sem] theorem zeroOk_130 : zeroOk Try.prog 130 = true := by kernel_rfl
@[go_sem] theorem bytesOf_130 : bytesOf Try.prog 130 = 24 := by kernel_rfl
@[go_sem] theorem zeroD_130 : zeroD Try.prog 130 = [.v (.int .i64 0), .v .nilIface] := by kernel_rfl
@[go_sem] theorem fld_130_0 : fld Try.prog 130 0 = some (0, 3) := by kernel_rfl
@[go_sem] theorem fld_130_1 : fld Try.prog 130 1 = some (1, 73) := by kernel_rfl
noncomputable def pl130 : Nat → Option (Nat × Nat) := (placeT Try.prog 130).getD fun _ => none
@[go_sem] theorem placeT_130 : placeT Try.prog 130 = some pl130 := by kernel_rfl
@[go_sem] theorem pl_130_0 : pl130 0 = some (0, 1) := by kernel_rfl
@[go_sem] theorem pl_130_1 : pl130 1 = some (1, 1) := by kernel_rfl
@[go_sem] theorem okT_147 : okT Try.prog 147 = true := by kernel_rfl
@[go_sem] theorem szOf_147 : szOf Try.prog 147 = 1 := by kernel_rfl
@[go_sem] theorem aggT_147 : aggT Try.prog 147 = false := by kernel_rfl
@[go_sem] theorem undS_147 : (Try.prog.underlying 147).isSome = true := by kernel_rfl
@[go_sem] theorem infS_147 : (Try.prog.info? 147).isSome = true := by kernel_rfl
@[go_sem] theorem ifaceT_147 : ifaceT Try.prog 147 = false := by kernel_rfl
@[go_sem] theorem ptrT_147 : ptrT Try.prog 147 = false := by kernel_rfl
@[go_sem] theorem zeroT_147 : zeroT Try.prog 147 = true := by kernel_rfl
@[go_sem] theorem zeroOk_147 : zeroOk Try.prog 147 = true := by kernel_rfl
@[go_sem] theorem bytesOf_147 : bytesOf Try.prog 147 = 8 := by kernel_rfl
@[go_sem] theorem zeroD_147 : zeroD Try.prog 147 = [.v .nilFunc] := by kernel_rfl
theorem mixed : Try.prog.follows .mixedOrders = true := by kernel_rfl
end Go.Proofs.Ytpnjkebjdclkfaa

/- The library at lists of strings. Conditions: none. -/
namespace Go.Proofs.Ytpnjkebjdclkfaa
open Go.RowKit

/-- Where the first one is of which p holds. -/
def IdxP (p : Nat → Bool) (n : Nat) (e : Ending) : Prop :=
  (∃ k : Nat, k < n ∧ e = .returned (.int .i64 k) ∧ p k = true ∧ ∀ r, r < k → p r = false) ∨ (e = .returned (.int .i64 (-1)) ∧ ∀ r, r < n → p r = false)
def IdxPost (p : Nat → Bool) (n : Nat) (w : World) (e : Ending) (w' : World) : Prop := IdxP p n e ∧ Below w.heap.size w w'
/-- One string ahead of another one. -/
def sLt (a b : Str) : Bool := Op.bytesLess a b
theorem sLt_iff (a b : Str) : sLt a b = decide (a < b) := bytesLess_eq _ _


set_option maxHeartbeats 1000000 in
set_option maxRecDepth 20000 in
theorem strF_index (K : Nat) (hK : ∀ (x : Array Value) W, (callFunc K x).run Try.prog W = .ok (.enter K x) W) (n : Nat) (A : Option Addr) (c : Nat) (V : Nat → Value) (p : Nat → Bool) (w : World) (hn : n ≤ 140737488351232)
    (hA : 0 < n → ∃ b o, A = some ⟨b, o, none⟩ ∧ b < w.heap.size ∧ ∀ i, i < n → w.cell? ⟨b, o + i, none⟩ = some (V i))
    (hcall : ∀ i, i < n → ∀ W, Below w.heap.size w W → Calls Try.prog K #[V i] W (Gives (.bool (p i)) W)) :
    Calls Try.prog 108 #[.slice A n c, .func (.func K) #[] #[]] w (IdxPost p n w) := by
  have HA := hide hA
  have HC := hide hcall
  clear hA hcall
  go_enter Try.func108, Try.ntmps108
  go_wp2_with fail
  go_loopw [8] (fun i wr => ∃ (k : Nat), i = .int .i64 k ∧ k ≤ n ∧ (∀ r, r < k → p r = false) ∧ Below w.heap.size w wr) (fun i _ => n - (intOf i).toNat)
  case atStart => exact ⟨0, rfl, Nat.zero_le _, fun r hr => by omega, Below.refl _ _⟩
  case round =>
    obtain ⟨k, rfl, hk, hno, hw⟩ := hrel
    obtain ⟨wo, rfl⟩ : ∃ wo : World, wo = wr := ⟨_, rfl⟩
    have GW := hide hw
    have GN := hide hno
    clear hw hno
    by_cases hlt : k < n
    · obtain ⟨b, o, rfl, hb, hV⟩ := HA.out (by omega)
      have hcall' := HC.out k hlt
      have hcell := (GW.out.cell (p := ⟨b, o + k, none⟩) hb).trans (hV k hlt)
      cases hx : p k
      all_goals
        have HX := hide hx
        rw [hx] at hcall'
        clear hx hV
        generalize V k = vk at *

        have HCL := hide hcall'
        clear hcall'
        go_wp2_with (fail)
        refine (HCL.out _ GW.out).mono ?_
        rintro e w1 ⟨rfl, hb1⟩
        have KW := hide (GW.out.trans (hb1.mono GW.out.size))
        clear hb1
      · go_wp2_with fail
        exact ⟨⟨k + 1, by go_num, by omega, fun r hr => by
          by_cases e : r = k
          · rw [e]; exact HX.out
          · exact GN.out r (by omega), KW.out⟩, by simp [intOf]; omega⟩
      · go_wp2
        go_ret
        exact ⟨.inl ⟨k, hlt, rfl, HX.out, GN.out⟩, KW.out⟩
    · obtain rfl : k = n := by omega
      go_wp2
      go_ret
      exact ⟨.inr ⟨rfl, GN.out⟩, GW.out⟩

set_option maxHeartbeats 400000 in
theorem strF_contains (K : Nat) (hK : ∀ (x : Array Value) W, (callFunc K x).run Try.prog W = .ok (.enter K x) W) (n : Nat) (A : Option Addr) (c : Nat) (V : Nat → Value) (p : Nat → Bool) (w : World) (hn : n ≤ 140737488351232)
    (hA : 0 < n → ∃ b o, A = some ⟨b, o, none⟩ ∧ b < w.heap.size ∧ ∀ i, i < n → w.cell? ⟨b, o + i, none⟩ = some (V i))
    (hcall : ∀ i, i < n → ∀ W, Below w.heap.size w W → Calls Try.prog K #[V i] W (Gives (.bool (p i)) W)) :
    Calls Try.prog 142 #[.slice A n c, .func (.func K) #[] #[]] w (Gives (.bool ((List.range n).any p)) w) := by
  have HI := hide (strF_index K hK n A c V p w hn hA hcall)
  clear hA hcall hK
  go_enter Try.func142, Try.ntmps142
  go_wp2_with fail
  refine HI.out.mono ?_
  rintro e w1 ⟨hi, hb⟩
  have HB := hide hb
  clear hb
  rcases hi with ⟨k, hk, rfl, hp, hno⟩ | ⟨rfl, hno⟩
  · have hx : (List.range n).any p = true := List.any_eq_true.2 ⟨k, List.mem_range.2 hk, hp⟩
    have HX := hide hx
    clear hx hp hno
    go_wp2
    go_ret
    exact ⟨ret_eq (by rw [HX.out]; rfl), HB.out⟩
  · have hx : (List.range n).any p = false := List.any_eq_false.2 fun r hr => by simp [hno r (List.mem_range.1 hr)]
    have HX := hide hx
    clear hx hno
    go_wp2
    go_ret
    exact ⟨ret_eq (by rw [HX.out]; rfl), HB.out⟩


set_option maxHeartbeats 1000000 in
set_option maxRecDepth 20000 in
theorem strG_index (K : Nat) (cap0 : Value) (hK : ∀ (x : Array Value) W, (callFunc K x).run Try.prog W = .ok (.enter K x) W) (n : Nat) (A : Option Addr) (c : Nat) (V : Nat → Value) (p : Nat → Bool) (w : World) (hn : n ≤ 140737488351232)
    (hA : 0 < n → ∃ b o, A = some ⟨b, o, none⟩ ∧ b < w.heap.size ∧ ∀ i, i < n → w.cell? ⟨b, o + i, none⟩ = some (V i))
    (hcall : ∀ i, i < n → ∀ W, Below w.heap.size w W → Calls Try.prog K #[V i, cap0] W (Gives (.bool (p i)) W)) :
    Calls Try.prog 108 #[.slice A n c, .func (.func K) #[] #[cap0]] w (IdxPost p n w) := by
  have HA := hide hA
  have HC := hide hcall
  clear hA hcall
  go_enter Try.func108, Try.ntmps108
  go_wp2_with fail
  go_loopw [8] (fun i wr => ∃ (k : Nat), i = .int .i64 k ∧ k ≤ n ∧ (∀ r, r < k → p r = false) ∧ Below w.heap.size w wr) (fun i _ => n - (intOf i).toNat)
  case atStart => exact ⟨0, rfl, Nat.zero_le _, fun r hr => by omega, Below.refl _ _⟩
  case round =>
    obtain ⟨k, rfl, hk, hno, hw⟩ := hrel
    obtain ⟨wo, rfl⟩ : ∃ wo : World, wo = wr := ⟨_, rfl⟩
    have GW := hide hw
    have GN := hide hno
    clear hw hno
    by_cases hlt : k < n
    · obtain ⟨b, o, rfl, hb, hV⟩ := HA.out (by omega)
      have hcall' := HC.out k hlt
      have hcell := (GW.out.cell (p := ⟨b, o + k, none⟩) hb).trans (hV k hlt)
      cases hx : p k
      all_goals
        have HX := hide hx
        rw [hx] at hcall'
        clear hx hV
        generalize V k = vk at *

        have HCL := hide hcall'
        clear hcall'
        go_wp2_with (fail)
        refine (HCL.out _ GW.out).mono ?_
        rintro e w1 ⟨rfl, hb1⟩
        have KW := hide (GW.out.trans (hb1.mono GW.out.size))
        clear hb1
      · go_wp2_with fail
        exact ⟨⟨k + 1, by go_num, by omega, fun r hr => by
          by_cases e : r = k
          · rw [e]; exact HX.out
          · exact GN.out r (by omega), KW.out⟩, by simp [intOf]; omega⟩
      · go_wp2
        go_ret
        exact ⟨.inl ⟨k, hlt, rfl, HX.out, GN.out⟩, KW.out⟩
    · obtain rfl : k = n := by omega
      go_wp2
      go_ret
      exact ⟨.inr ⟨rfl, GN.out⟩, GW.out⟩


set_option maxHeartbeats 400000 in
theorem isNaN_calls (a : Str) (w : World) : Calls Try.prog 155 #[sv a] w (fun e w' => e = .returned (.bool false) ∧ w = w') := by
  go_enter Try.func155, Try.ntmps155
  go_wp2
  go_ret
  exact ⟨ret_eq (by simp), rfl⟩
set_option maxHeartbeats 400000 in
theorem less_calls (a b : Str) (w : World) : Calls Try.prog 151 #[sv a, sv b] w (fun e w' => e = .returned (.bool (sLt a b)) ∧ w = w') := by
  go_enter Try.func151, Try.ntmps151
  go_wp2_with fail
  refine (isNaN_calls a _).mono ?_
  rintro e w1 ⟨rfl, rfl⟩
  go_wp2_with fail
  go_ret
  exact ⟨rfl, rfl⟩

set_option maxHeartbeats 1000000 in
theorem strIndex_calls (l : List Str) (x : Str) (A : Option Addr) (c : Nat) (w : World) (hr : RF w (· < w.heap.size) 1 A l.length (l.map sv)) (hn : l.length ≤ 140737488351232) :
    Calls Try.prog 102 #[.slice A l.length c, sv x] w (fun e w' => IdxP (fun i => decide (l[i]? = some x)) l.length e ∧ w = w') := by
  have HR := hide hr
  clear hr
  go_enter Try.func102, Try.ntmps102
  go_wp2_with fail
  go_loop [8] (fun i => ∃ (k : Nat), i = .int .i64 k ∧ k ≤ l.length ∧ (∀ r, r < k → l[r]? ≠ some x)) (fun i => l.length - (intOf i).toNat)
  case atStart => exact ⟨0, rfl, Nat.zero_le _, fun r hr => by omega⟩
  case round =>
    obtain ⟨k, rfl, hk, hno⟩ := hrel
    have GN := hide hno
    clear hno
    by_cases hlt : k < l.length
    · obtain ⟨b, o, rfl, hb, hc⟩ := HR.out.at_ hlt
      have hg : l[k]? = some l[k] := List.getElem?_eq_getElem hlt
      generalize l[k] = y at *
      have HG := hide hg
      clear hg
      by_cases hx : x = y
      · subst hx
        have hxx : (x == x) = true := by simp
        go_wp2
        go_ret
        exact ⟨.inl ⟨k, hlt, rfl, by simp [HG.out], fun r hr => by simpa using GN.out r hr⟩, rfl⟩
      · have hxx : (x == y) = false := by simpa using hx
        have HX := hide hx
        clear hx
        go_wp2_with fail
        exact ⟨⟨k + 1, by go_num, by omega, fun r hr => by
          by_cases e : r = k
          · rw [e, HG.out]; intro h; exact HX.out (Option.some.inj h).symm
          · exact GN.out r (by omega)⟩, by simp [intOf]; omega⟩
    · obtain rfl : k = l.length := by omega
      go_wp2
      go_ret
      exact ⟨.inr ⟨rfl, fun r hr => by simpa using GN.out r hr⟩, rfl⟩
set_option maxHeartbeats 400000 in
theorem strContains_calls (l : List Str) (x : Str) (A : Option Addr) (c : Nat) (w : World) (hr : RF w (· < w.heap.size) 1 A l.length (l.map sv)) (hn : l.length ≤ 140737488351232) :
    Calls Try.prog 101 #[.slice A l.length c, sv x] w (fun e w' => e = .returned (.bool (decide (x ∈ l))) ∧ w = w') := by
  have HI := hide (strIndex_calls l x A c w hr hn)
  clear hr
  go_enter Try.func101, Try.ntmps101
  go_wp2_with fail
  refine HI.out.mono ?_
  rintro e w1 ⟨hi, rfl⟩
  rcases hi with ⟨k, hk, rfl, hp, hno⟩ | ⟨rfl, hno⟩
  · have HX : Hid (decide (x ∈ l) = true) := hide (decide_eq_true (List.mem_of_getElem? (by simpa using hp)))
    clear hp hno
    go_wp2
    go_ret
    exact ⟨ret_eq (by rw [HX.out]; rfl), rfl⟩
  · have HX : Hid (decide (x ∈ l) = false) := hide (decide_eq_false fun hm => by
      obtain ⟨i, hi, e⟩ := List.getElem_of_mem hm
      have := hno i hi
      simp only [List.getElem?_eq_getElem hi, e] at this
      simp at this)
    clear hno
    go_wp2
    go_ret
    exact ⟨ret_eq (by rw [HX.out]; rfl), rfl⟩

/-- Unlike each other. -/
def unlikeB (l : List Str) : Bool := (List.range l.length).all fun i => !decide (l.getD i [] ∈ l.take i)
set_option maxHeartbeats 1000000 in
theorem unlike_calls (l : List Str) (A : Option Addr) (c : Nat) (w : World) (hr : RF w (· < w.heap.size) 1 A l.length (l.map sv)) (hn : l.length ≤ 140737488351232) (hc : l.length ≤ c) :
    Calls Try.prog 125 #[.slice A l.length c] w (fun e w' => e = .returned (.bool (unlikeB l)) ∧ w = w') := by
  have HR := hide hr
  clear hr
  go_enter Try.func125, Try.ntmps125
  go_wp2_with fail
  go_loop [7] (fun i => ∃ (k : Nat), i = .int .i64 k ∧ k ≤ l.length ∧ (∀ r, r < k → l.getD r [] ∉ l.take r)) (fun i => l.length - (intOf i).toNat)
  case atStart => exact ⟨0, rfl, Nat.zero_le _, fun r hr => by omega⟩
  case round =>
    obtain ⟨k, rfl, hk, hno⟩ := hrel
    have GN := hide hno
    clear hno
    by_cases hlt : k < l.length
    · obtain ⟨b, o, rfl, hb, hcell⟩ := HR.out.at_ hlt
      have hg : l.getD k [] = l[k] := by simp [List.getD, hlt]
      have HRT : Hid (RF w (· < w.heap.size) 1 (some ⟨b, o, none⟩) (l.take k).length ((l.take k).map sv)) := hide (by
        have := Reads.take (k := k) HR.out (by omega)
        rw [Nat.mul_one, ← List.map_take] at this
        rw [List.length_take, Nat.min_eq_left (by omega)]
        exact this)
      have hlen : (l.take k).length = k := by simp; omega
      have HC := hide (fun x => strContains_calls (l.take k) x (some ⟨b, o, none⟩) c w HRT.out (by omega))
      rw [hlen] at HC
      have HG := hide hg
      clear hg hlen
      generalize l[k] = y at *
      cases hx : decide (y ∈ l.take k)
      · have HX := hide hx
        clear hx
        go_wp2_with fail
        refine (HC.out y).mono ?_
        rintro e w1 ⟨rfl, rfl⟩
        rw [HX.out]
        go_wp2_with fail
        exact ⟨⟨k + 1, by go_num, by omega, fun r hr => by
          by_cases e : r = k
          · rw [e, HG.out]; exact of_decide_eq_false HX.out
          · exact GN.out r (by omega)⟩, by simp [intOf]; omega⟩
      · have HX := hide hx
        clear hx
        go_wp2_with fail
        refine (HC.out y).mono ?_
        rintro e w1 ⟨rfl, rfl⟩
        rw [HX.out]
        go_wp2
        go_ret
        exact ⟨ret_eq (by rw [show unlikeB l = false from List.all_eq_false.2 ⟨k, List.mem_range.2 hlt, by rw [HG.out, HX.out]; simp⟩]; rfl), rfl⟩
    · obtain rfl : k = l.length := by omega
      go_wp2
      go_ret
      exact ⟨ret_eq (by rw [show unlikeB l = true from List.all_eq_true.2 fun i hi => by simpa using GN.out i (List.mem_range.1 hi)]; rfl), rfl⟩

/-- None ahead of the one in front of it. -/
def sortedB (l : List Str) : Bool := (List.range (l.length - 1)).all fun i => !sLt (l.getD (i + 1) []) (l.getD i [])
set_option maxHeartbeats 1000000 in
set_option maxRecDepth 20000 in
theorem isSorted_calls (l : List Str) (A : Option Addr) (c : Nat) (w : World) (hr : RF w (· < w.heap.size) 1 A l.length (l.map sv)) (hn : l.length ≤ 140737488351232) :
    Calls Try.prog 144 #[.slice A l.length c] w (Gives (.bool (sortedB l)) w) := by
  have HR := hide hr
  clear hr
  go_enter Try.func144, Try.ntmps144
  go_wp2_with fail
  go_loopw [3] (fun i wr => ∃ (z : Int), i = .int .i64 z ∧ -1 ≤ z ∧ z < l.length ∧ (∀ r : Nat, z ≤ r → r + 1 < l.length → sLt (l.getD (r + 1) []) (l.getD r []) = false) ∧ Below w.heap.size w wr) (fun i _ => (intOf i).toNat)
  case atStart => exact ⟨(l.length : Int) - 1, rfl, by omega, by omega, fun r h1 h2 => by omega, Below.refl _ _⟩
  case round =>
    obtain ⟨z, rfl, hz, hzl, hno, hw⟩ := hrel
    have GN := hide hno
    have GW := hide hw
    clear hno hw
    obtain ⟨wo, rfl⟩ : ∃ wo : World, wo = wr := ⟨_, rfl⟩
    by_cases hz0 : 0 < z
    · obtain ⟨k, rfl⟩ : ∃ k : Nat, z = (k : Int) + 1 := ⟨(z - 1).toNat, by omega⟩
      have h1 : k + 1 < l.length := by omega
      have h0 : k < l.length := by omega
      obtain ⟨b, o, rfl, hb, hc1⟩ := HR.out.at_ h1
      obtain ⟨b', o', e', _, hc0⟩ := HR.out.at_ h0
      obtain ⟨rfl, rfl⟩ : b = b' ∧ o = o' := by injection e' with e'; injection e' with e1 e2; exact ⟨e1, e2⟩
      have hg1 : l.getD (k + 1) [] = l[k + 1] := by simp [List.getD, h1]
      have hg0 : l.getD k [] = l[k] := by simp [List.getD, h0]
      have HG := hide (And.intro hg1 hg0)
      have D1 : Hid (∀ W, Below wo.heap.size wo W → W.cell? ⟨b, o + (k + 1), none⟩ = some (sv l[k + 1])) := hide fun W hW => (hW.cell (p := ⟨b, o + (k + 1), none⟩) (Nat.lt_of_lt_of_le hb GW.out.size)).trans ((GW.out.cell (p := ⟨b, o + (k + 1), none⟩) hb).trans hc1)
      have D0 : Hid (∀ W, Below wo.heap.size wo W → W.cell? ⟨b, o + k, none⟩ = some (sv l[k])) := hide fun W hW => (hW.cell (p := ⟨b, o + k, none⟩) (Nat.lt_of_lt_of_le hb GW.out.size)).trans ((GW.out.cell (p := ⟨b, o + k, none⟩) hb).trans hc0)
      have j0 : (0 : Int) ≤ (k : Int) + 1 := by omega
      have j2 : (k : Int) + 1 < (l.length : Int) := by omega
      have j3 : (0 : Int) ≤ (k : Int) := by omega
      have j4 : (k : Int) < (l.length : Int) := by omega
      have j5 : ((k : Int) + 1).toNat = k + 1 := by omega
      have j6 : IntKind.i64.wrap (k : Int) = (k : Int) := IntWalk.i64_in _ (by omega)
      clear hg1 hg0 e' hc1 hc0
      generalize l[k + 1] = y at *
      generalize l[k] = x at *
      cases hx : sLt y x
      all_goals
        have HX := hide hx
        clear hx
        have HLC := hide (fun W => less_calls y x W)
        rw [HX.out] at HLC
        go_wp2_with fail
        refine wp_region_held_drew (S := fun w' => Below wo.heap.size wo w') (by kernel_rfl) (Below.refl _ _).drew (fun hHeld => ?_)
        (refine takeH (i := 0) (v := .slice (some ⟨b, o, none⟩) l.length c) rfl rfl (by kernel_rfl) (by kernel_rfl) (by kernel_rfl) (fun _ _ _ h => h) (by rfl) (fun wz hSw => by go_simp) hHeld ?_; simp only [Act.put, List.setIfInBounds_toArray, List.set_cons_zero, List.set_cons_succ])
        (refine takeH (i := 1) (v := .int .i64 ((k : Int) + 1)) rfl rfl (by kernel_rfl) (by kernel_rfl) (by kernel_rfl) (fun _ _ _ h => h) (by rfl) (fun wz hSw => by go_simp) hHeld ?_; simp only [Act.put, List.setIfInBounds_toArray, List.set_cons_zero, List.set_cons_succ])
        (refine takeH (i := 2) (v := .pointer (some ⟨b, o + (k + 1), none⟩)) rfl rfl (by kernel_rfl) (by kernel_rfl) (by kernel_rfl) (fun _ _ _ h => h) (by rfl) (fun wz hSw => by go_simp) hHeld ?_; simp only [Act.put, List.setIfInBounds_toArray, List.set_cons_zero, List.set_cons_succ])
        (refine takeH (i := 3) (v := sv y) rfl rfl (by kernel_rfl) (by kernel_rfl) (by kernel_rfl) (fun _ _ _ h => h) (by rfl) (fun wz hSw => by have hcx := D1.out _ hSw; go_simp) hHeld ?_; simp only [Act.put, List.setIfInBounds_toArray, List.set_cons_zero, List.set_cons_succ])
        (refine takeH (i := 4) (v := .slice (some ⟨b, o, none⟩) l.length c) rfl rfl (by kernel_rfl) (by kernel_rfl) (by kernel_rfl) (fun _ _ _ h => h) (by rfl) (fun wz hSw => by go_simp) hHeld ?_; simp only [Act.put, List.setIfInBounds_toArray, List.set_cons_zero, List.set_cons_succ])
        (refine takeH (i := 5) (v := .int .i64 ((k : Int) + 1)) rfl rfl (by kernel_rfl) (by kernel_rfl) (by kernel_rfl) (fun _ _ _ h => h) (by rfl) (fun wz hSw => by go_simp) hHeld ?_; simp only [Act.put, List.setIfInBounds_toArray, List.set_cons_zero, List.set_cons_succ])
        (refine takeH (i := 6) (v := .int .i64 (k : Int)) rfl rfl (by kernel_rfl) (by kernel_rfl) (by kernel_rfl) (fun _ _ _ h => h) (by rfl) (fun wz hSw => by go_simp) hHeld ?_; simp only [Act.put, List.setIfInBounds_toArray, List.set_cons_zero, List.set_cons_succ])
        (refine takeH (i := 7) (v := .pointer (some ⟨b, o + k, none⟩)) rfl rfl (by kernel_rfl) (by kernel_rfl) (by kernel_rfl) (fun _ _ _ h => h) (by rfl) (fun wz hSw => by go_simp) hHeld ?_; simp only [Act.put, List.setIfInBounds_toArray, List.set_cons_zero, List.set_cons_succ])
        (refine takeH (i := 8) (v := sv x) rfl rfl (by kernel_rfl) (by kernel_rfl) (by kernel_rfl) (fun _ _ _ h => h) (by rfl) (fun wz hSw => by have hcx := D0.out _ hSw; go_simp) hHeld ?_; simp only [Act.put, List.setIfInBounds_toArray, List.set_cons_zero, List.set_cons_succ])
        (refine oneH (i := 9) rfl (by kernel_rfl) (fun K hK => ?_); go_simp; refine (HLC.out _).mono ?_; rintro e w1 ⟨rfl, rfl⟩; refine hK.out _ _ (hHeld) (fun hHeld => ?_); clear hK K)
        refine wpAnyH_done (by kernel_rfl) ?_ _
        have KW := hide (GW.out.trans (hHeld.mono GW.out.size))
        clear hHeld j5 j6
      · go_wp2_with fail
        exact ⟨⟨(k : Int), rfl, by omega, by omega, fun r h1 h2 => by
          by_cases e : r = k
          · rw [e, HG.out.1, HG.out.2]; exact HX.out
          · exact GN.out r (by omega) h2, KW.out⟩, by simp [intOf]⟩
      · have HT : Hid (sortedB l = false) := hide (List.all_eq_false.2 ⟨k, List.mem_range.2 (by omega), by rw [HG.out.1, HG.out.2, HX.out]; simp⟩)
        clear GN
        go_wp2
        go_ret
        exact ⟨ret_eq (by rw [HT.out]; rfl), KW.out⟩
    · have HT : Hid (sortedB l = true) := hide (List.all_eq_true.2 fun i hi => by
        have := List.mem_range.1 hi
        rw [GN.out i (by omega) (by omega)]; rfl)
      clear GN
      go_wp2
      go_ret
      exact ⟨ret_eq (by rw [HT.out]; rfl), GW.out⟩

set_option maxHeartbeats 1000000 in
set_option maxRecDepth 20000 in
theorem strEqual_calls (l m : List Str) (A A2 : Option Addr) (c c2 : Nat) (w : World) (hr : RF w (· < w.heap.size) 1 A l.length (l.map sv)) (hr2 : RF w (· < w.heap.size) 1 A2 m.length (m.map sv)) (hn : l.length ≤ 140737488351232) (hm : m.length ≤ 140737488351232) :
    Calls Try.prog 61 #[.slice A l.length c, .slice A2 m.length c2] w (Gives (.bool (decide (l = m))) w) := by
  have HR := hide hr
  have HR2 := hide hr2
  clear hr hr2
  by_cases hlen : l.length = m.length
  · have hne : ((l.length : Int) != (m.length : Int)) = false := by simp [hlen]
    have HLen := hide hlen
    clear hlen
    go_enter Try.func61, Try.ntmps61
    go_wp2_with fail
    go_loopw [13] (fun i wr => ∃ (k : Nat), i = .int .i64 k ∧ k ≤ l.length ∧ l.take k = m.take k ∧ Below w.heap.size w wr) (fun i _ => l.length - (intOf i).toNat)
    case atStart => exact ⟨0, rfl, Nat.zero_le _, by simp, Below.refl _ _⟩
    case round =>
      obtain ⟨k, rfl, hk, heq, hw⟩ := hrel
      have GW := hide hw
      have GE := hide heq
      clear hw heq
      obtain ⟨wo, rfl⟩ : ∃ wo : World, wo = wr := ⟨_, rfl⟩
      by_cases hlt : k < l.length
      · have hlt2 : k < m.length := by rw [← HLen.out]; exact hlt
        obtain ⟨b, o, rfl, hb, hc1⟩ := HR.out.at_ hlt
        obtain ⟨b2, o2, rfl, hb2, hc2⟩ := HR2.out.at_ hlt2
        have D1 : Hid (∀ W, Below wo.heap.size wo W → W.cell? ⟨b, o + k, none⟩ = some (sv l[k])) := hide fun W hW => (hW.cell (p := ⟨b, o + k, none⟩) (Nat.lt_of_lt_of_le hb GW.out.size)).trans ((GW.out.cell (p := ⟨b, o + k, none⟩) hb).trans hc1)
        have D2 : Hid (∀ W, Below wo.heap.size wo W → W.cell? ⟨b2, o2 + k, none⟩ = some (sv m[k])) := hide fun W hW => (hW.cell (p := ⟨b2, o2 + k, none⟩) (Nat.lt_of_lt_of_le hb2 GW.out.size)).trans ((GW.out.cell (p := ⟨b2, o2 + k, none⟩) hb2).trans hc2)
        have j1 : (0 : Int) ≤ (k : Int) := by omega
        have j2 : (k : Int) < (l.length : Int) := by omega
        have j3 : (k : Int) < (m.length : Int) := by omega
        have HT : Hid (l[k] = m[k] → l.take (k + 1) = m.take (k + 1)) := hide fun e => by rw [List.take_succ_eq_append_getElem hlt, List.take_succ_eq_append_getElem hlt2, GE.out, e]
        have HD : Hid (l[k] ≠ m[k] → decide (l = m) = false) := hide fun e => by
          rw [decide_eq_false_iff_not]
          rintro rfl
          exact e rfl
        clear hc1 hc2
        generalize l[k] = x at *
        generalize m[k] = y at *
        cases hx : (x == y)
        all_goals
          have HX := hide hx
          go_wp2_with fail
          refine wp_region_held_drew (S := fun w' => Below wo.heap.size wo w') (by kernel_rfl) (Below.refl _ _).drew (fun hHeld => ?_)
          (refine takeH (i := 0) (v := .slice (some ⟨b, o, none⟩) l.length c) rfl rfl (by kernel_rfl) (by kernel_rfl) (by kernel_rfl) (fun _ _ _ h => h) (by rfl) (fun wz hSw => by go_simp) hHeld ?_; simp only [Act.put, List.setIfInBounds_toArray, List.set_cons_zero, List.set_cons_succ])
          (refine takeH (i := 1) (v := .int .i64 k) rfl rfl (by kernel_rfl) (by kernel_rfl) (by kernel_rfl) (fun _ _ _ h => h) (by rfl) (fun wz hSw => by go_simp) hHeld ?_; simp only [Act.put, List.setIfInBounds_toArray, List.set_cons_zero, List.set_cons_succ])
          (refine takeH (i := 2) (v := .pointer (some ⟨b, o + k, none⟩)) rfl rfl (by kernel_rfl) (by kernel_rfl) (by kernel_rfl) (fun _ _ _ h => h) (by rfl) (fun wz hSw => by go_simp) hHeld ?_; simp only [Act.put, List.setIfInBounds_toArray, List.set_cons_zero, List.set_cons_succ])
          (refine takeH (i := 3) (v := sv x) rfl rfl (by kernel_rfl) (by kernel_rfl) (by kernel_rfl) (fun _ _ _ h => h) (by rfl) (fun wz hSw => by have hcx := D1.out _ hSw; go_simp) hHeld ?_; simp only [Act.put, List.setIfInBounds_toArray, List.set_cons_zero, List.set_cons_succ])
          (refine takeH (i := 4) (v := .slice (some ⟨b2, o2, none⟩) m.length c2) rfl rfl (by kernel_rfl) (by kernel_rfl) (by kernel_rfl) (fun _ _ _ h => h) (by rfl) (fun wz hSw => by go_simp) hHeld ?_; simp only [Act.put, List.setIfInBounds_toArray, List.set_cons_zero, List.set_cons_succ])
          (refine takeH (i := 5) (v := .int .i64 k) rfl rfl (by kernel_rfl) (by kernel_rfl) (by kernel_rfl) (fun _ _ _ h => h) (by rfl) (fun wz hSw => by go_simp) hHeld ?_; simp only [Act.put, List.setIfInBounds_toArray, List.set_cons_zero, List.set_cons_succ])
          (refine takeH (i := 6) (v := .pointer (some ⟨b2, o2 + k, none⟩)) rfl rfl (by kernel_rfl) (by kernel_rfl) (by kernel_rfl) (fun _ _ _ h => h) (by rfl) (fun wz hSw => by go_simp) hHeld ?_; simp only [Act.put, List.setIfInBounds_toArray, List.set_cons_zero, List.set_cons_succ])
          (refine takeH (i := 7) (v := sv y) rfl rfl (by kernel_rfl) (by kernel_rfl) (by kernel_rfl) (fun _ _ _ h => h) (by rfl) (fun wz hSw => by have hcx := D2.out _ hSw; go_simp) hHeld ?_; simp only [Act.put, List.setIfInBounds_toArray, List.set_cons_zero, List.set_cons_succ])
          (refine oneH (i := 8) rfl (by kernel_rfl) (fun K hK => ?_); go_simp; refine hK.out _ _ (hHeld) (fun hHeld => ?_); clear hK K)
          refine wpAnyH_done (by kernel_rfl) ?_ _
          have KW := hide (GW.out.trans (hHeld.mono GW.out.size))
          clear hHeld hx
        · go_wp2
          go_ret
          exact ⟨ret_eq (by rw [HD.out (by simpa using HX.out)]; rfl), KW.out⟩
        · go_wp2_with fail
          exact ⟨⟨k + 1, by go_num, by omega, HT.out (by simpa using HX.out), KW.out⟩, by simp [intOf]; omega⟩
      · obtain rfl : k = l.length := by omega
        have e : l = m := by
          have := GE.out
          rw [List.take_length] at this
          rw [this]
          exact List.take_of_length_le (by rw [← HLen.out]; exact Nat.le_refl _)
        have HE := hide e
        clear e
        go_wp2
        go_ret
        exact ⟨ret_eq (by rw [decide_eq_true HE.out]; rfl), GW.out⟩
  · have hne : ((l.length : Int) != (m.length : Int)) = true := by simp; omega
    have HD : Hid (decide (l = m) = false) := hide (decide_eq_false fun e => hlen (by rw [e]))
    clear hlen
    go_enter Try.func61, Try.ntmps61
    go_wp2
    go_ret
    exact ⟨ret_eq (by rw [HD.out]; rfl), Below.refl _ _⟩
end Go.Proofs.Ytpnjkebjdclkfaa

/- Slices of numbers: where one stands; unlike each other. Conditions: none. -/
namespace Go.Proofs.Ytpnjkebjdclkfaa
open Go.RowKit

set_option maxHeartbeats 1000000 in
theorem uIndex_calls (l : List Nat) (x : Nat) (A : Option Addr) (c : Nat) (w : World) (hr : RF w (· < w.heap.size) 1 A l.length (l.map uv)) (hn : l.length ≤ 140737488351232) :
    Calls Try.prog 78 #[.slice A l.length c, uv x] w (fun e w' => IdxP (fun i => decide (l[i]? = some x)) l.length e ∧ w = w') := by
  have HR := hide hr
  clear hr
  go_enter Try.func78, Try.ntmps78
  go_wp2_with fail
  go_loop [8] (fun i => ∃ (k : Nat), i = .int .i64 k ∧ k ≤ l.length ∧ (∀ r, r < k → l[r]? ≠ some x)) (fun i => l.length - (intOf i).toNat)
  case atStart => exact ⟨0, rfl, Nat.zero_le _, fun r hr => by omega⟩
  case round =>
    obtain ⟨k, rfl, hk, hno⟩ := hrel
    have GN := hide hno
    clear hno
    by_cases hlt : k < l.length
    · obtain ⟨b, o, rfl, hb, hc⟩ := HR.out.at_ hlt
      have hg : l[k]? = some l[k] := List.getElem?_eq_getElem hlt
      generalize l[k] = y at *
      have HG := hide hg
      clear hg
      by_cases hx : x = y
      · subst hx
        have hxx : ((x : Int) == (x : Int)) = true := by simp
        go_wp2
        go_ret
        exact ⟨.inl ⟨k, hlt, rfl, by simp [HG.out], fun r hr => by simpa using GN.out r hr⟩, rfl⟩
      · have hxx : ((x : Int) == (y : Int)) = false := by simp; omega
        have HX := hide hx
        clear hx
        go_wp2_with fail
        exact ⟨⟨k + 1, by go_num, by omega, fun r hr => by
          by_cases e : r = k
          · rw [e, HG.out]; intro h; exact HX.out (Option.some.inj h).symm
          · exact GN.out r (by omega)⟩, by simp [intOf]; omega⟩
    · obtain rfl : k = l.length := by omega
      go_wp2
      go_ret
      exact ⟨.inr ⟨rfl, fun r hr => by simpa using GN.out r hr⟩, rfl⟩
set_option maxHeartbeats 400000 in
theorem uContains_calls (l : List Nat) (x : Nat) (A : Option Addr) (c : Nat) (w : World) (hr : RF w (· < w.heap.size) 1 A l.length (l.map uv)) (hn : l.length ≤ 140737488351232) :
    Calls Try.prog 149 #[.slice A l.length c, uv x] w (fun e w' => e = .returned (.bool (decide (x ∈ l))) ∧ w = w') := by
  have HI := hide (uIndex_calls l x A c w hr hn)
  clear hr
  go_enter Try.func149, Try.ntmps149
  go_wp2_with fail
  refine HI.out.mono ?_
  rintro e w1 ⟨hi, rfl⟩
  rcases hi with ⟨k, hk, rfl, hp, hno⟩ | ⟨rfl, hno⟩
  · have HX : Hid (decide (x ∈ l) = true) := hide (decide_eq_true (List.mem_of_getElem? (by simpa using hp)))
    clear hp hno
    go_wp2
    go_ret
    exact ⟨ret_eq (by rw [HX.out]; rfl), rfl⟩
  · have HX : Hid (decide (x ∈ l) = false) := hide (decide_eq_false fun hm => by
      obtain ⟨i, hi, e⟩ := List.getElem_of_mem hm
      have := hno i hi
      simp only [List.getElem?_eq_getElem hi, e] at this
      simp at this)
    clear hno
    go_wp2
    go_ret
    exact ⟨ret_eq (by rw [HX.out]; rfl), rfl⟩

/-- Neither 0 nor like one ahead of it; at most twelve. -/
def idOk (l : List Nat) (i : Nat) : Bool := !decide (l.getD i 0 = 0) && !decide (l.getD i 0 ∈ l.take i)
def idsB (l : List Nat) : Bool := ((List.range l.length).all (idOk l)) && decide (l.length ≤ 12)
set_option maxHeartbeats 1000000 in
theorem ids_calls (l : List Nat) (A : Option Addr) (c : Nat) (w : World) (hr : RF w (· < w.heap.size) 1 A l.length (l.map uv)) (hn : l.length ≤ 140737488351232) (hc : l.length ≤ c) :
    Calls Try.prog 138 #[.slice A l.length c] w (fun e w' => e = .returned (.bool (idsB l)) ∧ w = w') := by
  have HR := hide hr
  clear hr
  go_enter Try.func138, Try.ntmps138
  go_wp2_with fail
  go_loop [7] (fun i => ∃ (k : Nat), i = .int .i64 k ∧ k ≤ l.length ∧ (∀ r, r < k → idOk l r = true)) (fun i => l.length - (intOf i).toNat)
  case atStart => exact ⟨0, rfl, Nat.zero_le _, fun r hr => by omega⟩
  case round =>
    obtain ⟨k, rfl, hk, hno⟩ := hrel
    have GN := hide hno
    clear hno
    by_cases hlt : k < l.length
    · obtain ⟨b, o, rfl, hb, hcell⟩ := HR.out.at_ hlt
      have hg : l.getD k 0 = l[k] := by simp [List.getD, hlt]
      have HOK : Hid (idOk l k = (!decide (l[k] = 0) && !decide (l[k] ∈ l.take k))) := hide (by unfold idOk; rw [hg])
      have HRT : Hid (RF w (· < w.heap.size) 1 (some ⟨b, o, none⟩) (l.take k).length ((l.take k).map uv)) := hide (by
        have := Reads.take (k := k) HR.out (by omega)
        rw [Nat.mul_one, ← List.map_take] at this
        rw [List.length_take, Nat.min_eq_left (by omega)]
        exact this)
      have hlen : (l.take k).length = k := by simp; omega
      have HC := hide (fun x => uContains_calls (l.take k) x (some ⟨b, o, none⟩) c w HRT.out (by omega))
      rw [hlen] at HC
      clear hg hlen
      have HFL : Hid (idOk l k = false → idsB l = false) := hide fun h => by
        unfold idsB
        rw [show (List.range l.length).all (idOk l) = false from List.all_eq_false.2 ⟨k, List.mem_range.2 hlt, by rw [h]; simp⟩, Bool.false_and]
      generalize l[k] = y at *
      by_cases h0 : y = 0
      · have h00 : ((y : Int) == 0) = true := by simp [h0]
        have HX : Hid (idsB l = false) := hide (HFL.out (by rw [HOK.out, decide_eq_true h0]; rfl))
        clear h0
        go_wp2
        go_ret
        exact ⟨ret_eq (by rw [HX.out]; rfl), rfl⟩
      · have h00 : ((y : Int) == 0) = false := by simpa using h0
        rw [decide_eq_false h0, Bool.not_false, Bool.true_and] at HOK
        clear h0
        cases hx : decide (y ∈ l.take k)
        · rw [hx] at HOK
          have HX := hide hx
          clear hx
          go_wp2_with fail
          refine (HC.out y).mono ?_
          rintro e w1 ⟨rfl, rfl⟩
          rw [HX.out]
          go_wp2_with fail
          exact ⟨⟨k + 1, by go_num, by omega, fun r hr => by
            by_cases e : r = k
            · rw [e, HOK.out]; rfl
            · exact GN.out r (by omega)⟩, by simp [intOf]; omega⟩
        · rw [hx] at HOK
          have HX := hide hx
          clear hx
          go_wp2_with fail
          refine (HC.out y).mono ?_
          rintro e w1 ⟨rfl, rfl⟩
          rw [HX.out]
          go_wp2
          go_ret
          exact ⟨ret_eq (by rw [HFL.out (by rw [HOK.out]; rfl)]; rfl), rfl⟩
    · obtain rfl : k = l.length := by omega
      have HE : Hid (idsB l = decide (l.length ≤ 12)) := hide (by
        unfold idsB
        rw [show (List.range l.length).all (idOk l) = true from List.all_eq_true.2 fun i hi => GN.out i (List.mem_range.1 hi), Bool.true_and])
      go_wp2
      go_ret
      exact ⟨ret_eq (by rw [HE.out]; first | rfl | (simp; done) | (simp; omega) | (simp; rw [Bool.eq_iff_iff]; simp; omega) | (rw [Bool.eq_iff_iff]; simp; omega) | (simp; rw [Bool.eq_iff_iff]; simp)), rfl⟩
end Go.Proofs.Ytpnjkebjdclkfaa

/- Names: value.Name, and the document's own. Conditions: none. -/
namespace Go.Proofs.Ytpnjkebjdclkfaa
open Go.RowKit

def nameByte (c : Nat) : Bool := decide ((97 ≤ c ∧ c ≤ 122) ∨ (48 ≤ c ∧ c ≤ 57) ∨ c = 95)
def nameB (s : Str) : Bool := (s.all fun c => nameByte c.toNat) && decide (1 ≤ s.length ∧ s.length ≤ 12)

theorem nameByte_true {c : Nat} (h : (97 ≤ c ∧ c ≤ 122) ∨ (48 ≤ c ∧ c ≤ 57) ∨ c = 95) : nameByte c = true := decide_eq_true h
theorem nameByte_false {c : Nat} (h : ¬ ((97 ≤ c ∧ c ≤ 122) ∨ (48 ≤ c ∧ c ≤ 57) ∨ c = 95)) : nameByte c = false := decide_eq_false h

set_option maxHeartbeats 1000000 in
theorem nameOther_calls (R : Nat) (w : World) (hR : R ≤ 1114111) : Calls Try.prog 148 #[.int .i32 (R : Int)] w (fun e w' => e = .returned (.bool (!nameByte R)) ∧ w = w') := by
  have key : R < 48 ∨ (48 ≤ R ∧ R ≤ 57) ∨ (57 < R ∧ R < 95) ∨ (95 ≤ R ∧ R ≤ 95) ∨ (96 ≤ R ∧ R ≤ 96) ∨ (97 ≤ R ∧ R ≤ 122) ∨ 122 < R := by omega
  rcases key with h | h | h | h | h | h | h
  all_goals
    first
      | (have hT : Hid (nameByte _ = true) := hide (nameByte_true (c := R) (by omega)))
      | (have hT : Hid (nameByte _ = false) := hide (nameByte_false (c := R) (by omega)))
    first | (have hb : ((R : Int) == 95) = false := by simp; omega) | (have hb : ((R : Int) == 95) = true := by simp; omega)
    go_enter Try.func148, Try.ntmps148
    go_wp2
    go_ret
    exact ⟨ret_eq (by rw [hT.out]; first | rfl | (simp; omega)), rfl⟩

theorem get_str (s : Str) (i : Nat) (h : i < s.length) : (strB s).get! i = s[i] := by
  simp [strB, ByteArray.get!, h]
theorem decode_name (s : Str) (i : Nat) (h : i < s.length) : (nameByte (Utf8.decode (strB s) i).1 = nameByte s[i].toNat) ∧ (nameByte s[i].toNat = true → (Utf8.decode (strB s) i).2 = 1) := by
  have hg : (strB s).get! (i + 0) = s[i] := get_str s i h
  unfold Utf8.decode
  simp only [hg]
  by_cases h0 : s[i].toNat < 128
  · rw [if_pos h0]; exact ⟨rfl, fun _ => rfl⟩
  · rw [if_neg h0]
    have hn : nameByte s[i].toNat = false := nameByte_false (by omega)
    refine ⟨?_, fun h => by rw [hn] at h; cases h⟩
    rw [hn]
    split
    · split
      · exact nameByte_false (by omega)
      · exact nameByte_false (by unfold Utf8.runeError; omega)
    · split
      · split
        · rename_i hc
          simp only [Bool.and_eq_true, decide_eq_true_eq] at hc
          exact nameByte_false (by omega)
        · exact nameByte_false (by unfold Utf8.runeError; omega)
      · split
        · split
          · rename_i hc
            simp only [Bool.and_eq_true, decide_eq_true_eq] at hc
            exact nameByte_false (by omega)
          · exact nameByte_false (by unfold Utf8.runeError; omega)
        · exact nameByte_false (by unfold Utf8.runeError; omega)

/-- The first one that is no sign of a name: below 0 where there is none. -/
def OtherPost (s : Str) (w : World) (e : Ending) (w' : World) : Prop := (∃ z : Int, e = .returned (.int .i64 z) ∧ decide (z < 0) = s.all (fun c => nameByte c.toNat)) ∧ Below w.heap.size w w'
set_option maxHeartbeats 2000000 in
set_option maxRecDepth 20000 in
theorem nameIndex_calls (s : Str) (w : World) (hs : s.length ≤ maxLen) :
    Calls Try.prog 154 #[sv s, .func (.func 148) #[] #[], .bool true] w (OtherPost s w) := by
  unfold maxLen at hs
  have hKs : ∀ (x : Array Value) W, (callFunc 148 x).run Try.prog W = .ok (.enter 148 x) W := fun _ _ => by kernel_rfl
  go_enter Try.func154, Try.ntmps154
  go_wp2
  go_loopg [] s.length (fun g wx => ∃ pos : Nat, wx.heap[w.heap.size]? = some (.stringIter (strB s) pos) ∧ Below w.heap.size w wx ∧ s.length ≤ pos + g ∧ (∀ c ∈ s.take pos, nameByte c.toNat = true))
  case atStart => exact ⟨0, World.iter_heap w (strB s) 0, (Below.refl _ w).alloc (Nat.le_refl _) _, by omega, by simp⟩
  case round =>
    obtain ⟨pos, hit, hbw, hfu, hok⟩ := hrel
    have GB := hide hbw
    have GN := hide hok
    have hsz : w.heap.size < wr.heap.size := (Array.getElem?_eq_some_iff.1 hit).1
    clear hbw hok
    by_cases hp0 : pos < s.length
    · have hp : pos < (strB s).size := by rw [strB_size]; exact hp0
      obtain ⟨g, rfl⟩ : ∃ g, gk = g + 1 := ⟨gk - 1, by omega⟩
      have hnx : ∀ ty, (Instr.next (.pointer (some ⟨w.heap.size, 0, none⟩)) true ty).run Try.prog wr = _ := fun ty => Lib.run_next_any_at wr w.heap.size (strB s) pos ty hit hp
      have hr1 := Lib.rune_le (strB s) pos
      have hwd := Lib.width_pos (strB s) pos
      have hdn := decode_name s pos hp0
      obtain ⟨R, hR⟩ : ∃ R, (Utf8.decode (strB s) pos).1 = R := ⟨_, rfl⟩
      obtain ⟨K, hK⟩ : ∃ K, (Utf8.decode (strB s) pos).2 = K := ⟨_, rfl⟩
      rw [hR, hK] at hnx
      rw [hR, hK] at hdn
      rw [hR] at hr1
      rw [hK] at hwd
      have hit2 := Lib.iterAt_heap wr w.heap.size (strB s) pos (pos + K) hit
      have hbw2 := Lib.below_iterAt GB.out (k := w.heap.size) (Nat.le_refl _) (strB s) (pos + K)
      obtain ⟨W, hWd⟩ : ∃ W, wr.iterAt w.heap.size (strB s) (pos + K) = W := ⟨_, rfl⟩
      rw [hWd] at hnx hit2 hbw2
      have hWs : w.heap.size < W.heap.size := (Array.getElem?_eq_some_iff.1 hit2).1
      have cS := hide (nameOther_calls R W hr1)
      have HDN := hide hdn
      have HI2 := hide (And.intro hit2 hbw2)
      clear hdn hit hit2 hbw2 hR hK hWd
      cases hx : nameByte R with
      | true =>
        rw [hx] at cS
        have HX := hide hx
        clear hx
        go_wp2_with (go_at_call 148; refine cS.out.mono ?_; rintro e w' ⟨rfl, rfl⟩)
        go_roundg g
        case measure => omega
        case rel =>
          have h1 : nameByte s[pos].toNat = true := HDN.out.1.symm.trans HX.out
          have hK1 := HDN.out.2 h1
          subst hK1
          refine ⟨pos + 1, HI2.out.1, HI2.out.2, by omega, fun c hc => ?_⟩
          rw [List.take_succ_eq_append_getElem hp0] at hc
          rcases List.mem_append.1 hc with h | h
          · exact GN.out c h
          · rw [List.mem_singleton.1 h]; exact h1
      | false =>
        rw [hx] at cS
        have HX := hide hx
        clear hx
        go_wp2_with (go_at_call 148; refine cS.out.mono ?_; rintro e w' ⟨rfl, rfl⟩)
        go_ret
        refine ⟨⟨(pos : Int), rfl, ?_⟩, HI2.out.2⟩
        have h1 : nameByte s[pos].toNat = false := HDN.out.1.symm.trans HX.out
        rw [show (s.all fun c => nameByte c.toNat) = false from List.all_eq_false.2 ⟨s[pos], List.getElem_mem _, by rw [h1]; simp⟩]
        simp
    · have hp : ¬ pos < (strB s).size := by rw [strB_size]; exact hp0
      have hnx : ∀ ty, (Instr.next (.pointer (some ⟨w.heap.size, 0, none⟩)) true ty).run Try.prog wr = _ := fun ty => Lib.run_next_end_at wr w.heap.size (strB s) pos ty hit hp
      clear hit
      go_wp2
      go_ret
      refine ⟨⟨-1, rfl, ?_⟩, GB.out⟩
      rw [show (s.all fun c => nameByte c.toNat) = true from List.all_eq_true.2 fun c hc => GN.out c (by rw [List.take_of_length_le (by omega)]; exact hc)]
      rfl

set_option maxHeartbeats 400000 in
theorem nameIndexS_calls (s : Str) (w : World) (hs : s.length ≤ maxLen) :
    Calls Try.prog 147 #[sv s, .func (.func 148) #[] #[]] w (OtherPost s w) := by
  have HI := hide (nameIndex_calls s w hs)
  go_enter Try.func147, Try.ntmps147
  go_wp2_with fail
  refine HI.out.mono ?_
  rintro e w1 ⟨⟨z, rfl, hz⟩, hb⟩
  have HZ := hide hz
  have HB := hide hb
  clear hz hb
  go_wp2
  go_ret
  exact ⟨⟨z, rfl, HZ.out⟩, HB.out⟩

set_option maxHeartbeats 1000000 in
theorem name_calls (s : Str) (w : World) (hs : s.length ≤ maxLen) : Calls Try.prog 136 #[sv s] w (Gives (.bool (nameB s)) w) := by
  have HI := hide (nameIndexS_calls s w hs)
  go_enter Try.func136, Try.ntmps136
  go_wp2_with fail
  refine HI.out.mono ?_
  rintro e w1 ⟨⟨z, rfl, hz⟩, hb⟩
  have HB := hide hb
  have HN : Hid (nameB s = (decide (z < 0) && decide (1 ≤ s.length ∧ s.length ≤ 12))) := hide (by rw [hz]; rfl)
  clear hb hz
  unfold maxLen at hs
  by_cases h1 : s.length = 0
  · obtain rfl : s = [] := List.eq_nil_of_length_eq_zero h1
    go_wp2
    go_ret
    exact ⟨ret_eq (by rw [HN.out]; simp), HB.out⟩
  · have hne : ¬ s = [] := fun e => h1 (by rw [e]; rfl)
    have hne2 : s.isEmpty = false := by cases s; exact absurd rfl hne; rfl
    by_cases h2 : s.length ≤ 12
    · have hd : decide (1 ≤ s.length ∧ s.length ≤ 12) = true := decide_eq_true ⟨by omega, h2⟩
      rw [hd, Bool.and_true] at HN
      clear hd
      go_wp2
      go_ret
      exact ⟨ret_eq (by rw [HN.out]; rfl), HB.out⟩
    · have hd : decide (1 ≤ s.length ∧ s.length ≤ 12) = false := decide_eq_false fun h => h2 h.2
      rw [hd, Bool.and_false] at HN
      clear hd
      go_wp2
      go_ret
      exact ⟨ret_eq (by rw [HN.out]; rfl), HB.out⟩
end Go.Proofs.Ytpnjkebjdclkfaa

/- Names: the document's own; lists of names. Conditions: none. -/
namespace Go.Proofs.Ytpnjkebjdclkfaa
open Go.RowKit

set_option maxHeartbeats 1000000 in
theorem refName_calls (s : Str) (w : World) (hs : s.length ≤ maxLen) : Calls Try.prog 87 #[sv s] w (fun e w' => e = .returned (.bool (nameB s)) ∧ w = w') := by
  unfold maxLen at hs
  go_enter Try.func87, Try.ntmps87
  go_wp2_with fail
  go_loop [3] (fun i => ∃ (k : Nat), i = .int .i64 k ∧ k ≤ s.length ∧ ∀ c ∈ s.take k, nameByte c.toNat = true) (fun i => s.length - (intOf i).toNat)
  case atStart => exact ⟨0, rfl, Nat.zero_le _, by simp⟩
  case round =>
    obtain ⟨k, rfl, hk, hok⟩ := hrel
    have GN := hide hok
    clear hok
    by_cases hlt : k < s.length
    · have hx := UInt8.toNat_lt s[k]
      have HT : Hid (nameByte s[k].toNat = true → ∀ c ∈ s.take (k + 1), nameByte c.toNat = true) := hide fun h c hc => by
        rw [List.take_succ_eq_append_getElem hlt] at hc
        rcases List.mem_append.1 hc with h1 | h1
        · exact GN.out c h1
        · rw [List.mem_singleton.1 h1]; exact h
      have HN : Hid (nameByte s[k].toNat = false → nameB s = false) := hide fun h => by
        unfold nameB
        rw [show (s.all fun c => nameByte c.toNat) = false from List.all_eq_false.2 ⟨s[k], List.getElem_mem _, by rw [h]; simp⟩]
        rfl
      have key : s[k].toNat < 48 ∨ (48 ≤ s[k].toNat ∧ s[k].toNat ≤ 57) ∨ (57 < s[k].toNat ∧ s[k].toNat < 95) ∨ (95 ≤ s[k].toNat ∧ s[k].toNat ≤ 95) ∨ (96 ≤ s[k].toNat ∧ s[k].toNat ≤ 96) ∨ (97 ≤ s[k].toNat ∧ s[k].toNat ≤ 122) ∨ 122 < s[k].toNat := by omega
      clear GN
      rcases key with h | h | h | h | h | h | h
      all_goals
        first | (have hb : ((s[k].toNat : Int) == 95) = false := by simp; omega) | (have hb : ((s[k].toNat : Int) == 95) = true := by simp; omega)
        first
          | (have hT : Hid (nameByte s[k].toNat = true) := hide (nameByte_true (by omega)))
          | (have hT : Hid (nameByte s[k].toNat = false) := hide (nameByte_false (by omega)))
        first
          | (have d1 : decide ((97 : Int) ≤ (s[k].toNat : Int)) = true := decide_eq_true (by omega); have d2 : decide ((s[k].toNat : Int) ≤ 122) = true := decide_eq_true (by omega))
          | (have d1 : decide ((97 : Int) ≤ (s[k].toNat : Int)) = true := decide_eq_true (by omega); have d2 : decide ((s[k].toNat : Int) ≤ 122) = false := decide_eq_false (by omega))
          | (have d1 : decide ((97 : Int) ≤ (s[k].toNat : Int)) = false := decide_eq_false (by omega))
        first
          | (have d3 : decide ((48 : Int) ≤ (s[k].toNat : Int)) = true := decide_eq_true (by omega); have d4 : decide ((s[k].toNat : Int) ≤ 57) = true := decide_eq_true (by omega))
          | (have d3 : decide ((48 : Int) ≤ (s[k].toNat : Int)) = true := decide_eq_true (by omega); have d4 : decide ((s[k].toNat : Int) ≤ 57) = false := decide_eq_false (by omega))
          | (have d3 : decide ((48 : Int) ≤ (s[k].toNat : Int)) = false := decide_eq_false (by omega))
        go_wp2_with fail
        first
          | exact ⟨⟨k + 1, by go_num, by omega, HT.out hT.out⟩, by simp [intOf]; omega⟩
          | (go_ret; exact ⟨ret_eq (by rw [HN.out hT.out]; rfl), rfl⟩)
    · obtain rfl : k = s.length := by omega
      have HA : Hid ((s.all fun c => nameByte c.toNat) = true) := hide (List.all_eq_true.2 fun c hc => GN.out c (by rw [List.take_length]; exact hc))
      have HN : Hid (nameB s = decide (1 ≤ s.length ∧ s.length ≤ 12)) := hide (by unfold nameB; rw [HA.out]; rfl)
      by_cases h1 : 1 ≤ s.length
      · by_cases h2 : s.length ≤ 12
        · have hd : Hid (decide (1 ≤ s.length ∧ s.length ≤ 12) = true) := hide (decide_eq_true ⟨h1, h2⟩)
          go_wp2
          go_ret
          exact ⟨ret_eq (by rw [HN.out, hd.out]; first | rfl | (simp; omega)), rfl⟩
        · have hd : Hid (decide (1 ≤ s.length ∧ s.length ≤ 12) = false) := hide (decide_eq_false fun h => h2 h.2)
          go_wp2
          go_ret
          exact ⟨ret_eq (by rw [HN.out, hd.out]; first | rfl | (simp; omega)), rfl⟩
      · have hd : Hid (decide (1 ≤ s.length ∧ s.length ≤ 12) = false) := hide (decide_eq_false fun h => h1 h.1)
        go_wp2
        go_ret
        exact ⟨ret_eq (by rw [HN.out, hd.out]; first | rfl | (simp; omega)), rfl⟩

theorem RF.below' {w w' : World} {size n : Nat} {A : Option Addr} {xs : List Value} {B : Nat} (h : RF w (· < B) size A n xs) (hb : Below B w w') : RF w' (· < B) size A n xs := h.keep fun _ hq => hb.cell hq
theorem RF.more {w w' : World} {size n : Nat} {A : Option Addr} {xs : List Value} (h : RF w (· < w.heap.size) size A n xs) (hb : Below w.heap.size w w') : RF w' (· < w'.heap.size) size A n xs := (h.below' hb).mono fun _ hk => Nat.lt_of_lt_of_le hk hb.size

set_option maxHeartbeats 400000 in
theorem namesNot_calls (s : Str) (w : World) (hs : s.length ≤ maxLen) : Calls Try.prog 143 #[sv s] w (Gives (.bool (!nameB s)) w) := by
  have HI := hide (name_calls s w hs)
  go_enter Try.func143, Try.ntmps143
  go_wp2_with fail
  refine HI.out.mono ?_
  rintro e w1 ⟨rfl, hb⟩
  have HB := hide hb
  clear hb
  go_wp2
  go_ret
  exact ⟨rfl, HB.out⟩
def namesB (l : List Str) : Bool := decide (l.length ≤ 8) && l.all nameB
set_option maxHeartbeats 1000000 in
theorem names_calls (l : List Str) (A : Option Addr) (c : Nat) (w : World) (hr : RF w (· < w.heap.size) 1 A l.length (l.map sv)) (hz : ∀ s ∈ l, s.length ≤ maxLen) (hn : l.length ≤ 140737488351232) :
    Calls Try.prog 124 #[.slice A l.length c] w (Gives (.bool (namesB l)) w) := by
  have hK : ∀ (x : Array Value) W, (callFunc 143 x).run Try.prog W = .ok (.enter 143 x) W := fun _ _ => by kernel_rfl
  have HC := hide (strF_contains 143 hK l.length A c (fun i => sv (l.getD i [])) (fun i => !nameB (l.getD i [])) w hn
    (fun h0 => by
      obtain ⟨b, o, e, hb, hc⟩ := hr.2 h0
      exact ⟨b, o, e, hb, fun i hi => hc i _ (by simp [List.getD, hi])⟩)
    (fun i hi W hW => namesNot_calls _ W (by
      have : l.getD i [] ∈ l := by simp [List.getD, hi]
      exact hz _ this)))
  have HP : Hid ((List.range l.length).any (fun i => !nameB (l.getD i [])) = !l.all nameB) := hide (by
    rw [Bool.eq_iff_iff, List.any_eq_true]
    simp only [Bool.not_eq_true', List.all_eq_false, List.mem_range]
    constructor
    · rintro ⟨i, hi, h⟩
      exact ⟨l.getD i [], by simp [List.getD, hi], by rw [h]; simp⟩
    · rintro ⟨x, hx, h⟩
      obtain ⟨i, hi, rfl⟩ := List.getElem_of_mem hx
      exact ⟨i, hi, by simpa [List.getD, hi] using h⟩)
  rw [HP.out] at HC
  have HN : Hid (namesB l = (decide (l.length ≤ 8) && l.all nameB)) := hide rfl
  clear hr hz hK HP
  generalize l.all nameB = x at *
  by_cases h8 : l.length ≤ 8
  · have hd : decide (l.length ≤ 8) = true := decide_eq_true h8
    rw [hd, Bool.true_and] at HN
    clear hd
    go_enter Try.func124, Try.ntmps124
    go_wp2_with fail
    refine HC.out.mono ?_
    rintro e w1 ⟨rfl, hb⟩
    have HB := hide hb
    clear hb
    go_wp2
    go_ret
    exact ⟨ret_eq (by rw [HN.out]; simp), HB.out⟩
  · have hd : decide (l.length ≤ 8) = false := decide_eq_false h8
    rw [hd, Bool.false_and] at HN
    clear hd
    go_enter Try.func124, Try.ntmps124
    go_wp2
    go_ret
    exact ⟨ret_eq (by rw [HN.out]; rfl), Below.refl _ _⟩
def risingB (l : List Str) : Bool := sortedB l && unlikeB l
set_option maxHeartbeats 400000 in
theorem rising_calls (l : List Str) (A : Option Addr) (c : Nat) (w : World) (hr : RF w (· < w.heap.size) 1 A l.length (l.map sv)) (hn : l.length ≤ 140737488351232) (hc : l.length ≤ c) :
    Calls Try.prog 126 #[.slice A l.length c] w (Gives (.bool (risingB l)) w) := by
  have HS := hide (isSorted_calls l A c w hr hn)
  have HR := hide hr
  have HN : Hid (risingB l = (sortedB l && unlikeB l)) := hide rfl
  clear hr
  cases hx : sortedB l
  all_goals
    rw [hx] at HS HN
    clear hx
    go_enter Try.func126, Try.ntmps126
    go_wp2_with fail
    refine HS.out.mono ?_
    rintro e w1 ⟨rfl, hb⟩
    have HB := hide hb
    clear hb
    go_wp2_with fail
  · go_ret
    exact ⟨ret_eq (by rw [HN.out]; rfl), HB.out⟩
  · refine (unlike_calls l A c _ (HR.out.more HB.out) hn hc).mono ?_
    rintro e w2 ⟨rfl, rfl⟩
    go_wp2
    go_ret
    exact ⟨ret_eq (by rw [HN.out]; rfl), HB.out⟩
end Go.Proofs.Ytpnjkebjdclkfaa

/- Names that rise. Conditions: none. -/
namespace Go.Proofs.Ytpnjkebjdclkfaa
open Go.RowKit

/-- A right name, ahead of which the one before it stands. -/
def riseOk (l : List Str) (i : Nat) : Bool := nameB (l.getD i []) && (decide (i = 0) || sLt (l.getD (i - 1) []) (l.getD i []))
def riseV (l : List Str) : Bool := ((List.range l.length).all (riseOk l)) && decide (l.length ≤ 8)
set_option maxHeartbeats 1000000 in
theorem riseV_calls (l : List Str) (A : Option Addr) (c : Nat) (w : World) (hr : RF w (· < w.heap.size) 1 A l.length (l.map sv)) (hz : ∀ s ∈ l, s.length ≤ maxLen) (hn : l.length ≤ 140737488351232) :
    Calls Try.prog 137 #[.slice A l.length c] w (Gives (.bool (riseV l)) w) := by
  have HR := hide hr
  have HZ := hide hz
  clear hr hz
  go_enter Try.func137, Try.ntmps137
  go_wp2_with fail
  go_loopw [7] (fun i wr => ∃ (k : Nat), i = .int .i64 k ∧ k ≤ l.length ∧ (∀ r, r < k → riseOk l r = true) ∧ Below w.heap.size w wr) (fun i _ => l.length - (intOf i).toNat)
  case atStart => exact ⟨0, rfl, Nat.zero_le _, fun r hr => by omega, Below.refl _ _⟩
  case round =>
    obtain ⟨k, rfl, hk, hno, hw⟩ := hrel
    obtain ⟨wo, rfl⟩ : ∃ wo : World, wo = wr := ⟨_, rfl⟩
    have GN := hide hno
    have GW := hide hw
    clear hno hw
    by_cases hlt : k < l.length
    · obtain ⟨b, o, rfl, hb, hcell⟩ := HR.out.at_ hlt
      have hzy := HZ.out _ (List.getElem_mem hlt)
      obtain ⟨y, hy⟩ : ∃ y, l[k] = y := ⟨_, rfl⟩
      have hg : l.getD k [] = y := by rw [← hy]; simp [List.getD, hlt]
      rw [hy] at hzy hcell
      have c1 : wo.cell? ⟨b, o + k, none⟩ = some (sv y) := (GW.out.cell (p := ⟨b, o + k, none⟩) hb).trans hcell
      have HOK : Hid (riseOk l k = (nameB y && (decide (k = 0) || sLt (l.getD (k - 1) []) y))) := hide (by unfold riseOk; rw [hg])
      have HC := hide (name_calls y wo hzy)
      have HFL : Hid (riseOk l k = false → riseV l = false) := hide fun h => by
        unfold riseV
        rw [show (List.range l.length).all (riseOk l) = false from List.all_eq_false.2 ⟨k, List.mem_range.2 hlt, by rw [h]; simp⟩, Bool.false_and]
      clear hg hcell hy hzy
      cases hx : nameB y
      · rw [hx] at HC HOK
        clear hx
        go_wp2_with fail
        refine HC.out.mono ?_
        rintro e w1 ⟨rfl, hb1⟩
        have KW := hide (GW.out.trans (hb1.mono GW.out.size))
        clear hb1
        go_wp2
        go_ret
        exact ⟨ret_eq (by rw [HFL.out (by rw [HOK.out]; rfl)]; rfl), KW.out⟩
      · rw [hx, Bool.true_and] at HOK
        rw [hx] at HC
        clear hx
        by_cases h0 : k = 0
        · rw [decide_eq_true h0, Bool.true_or] at HOK
          have h00 : ¬ (0 : Int) < (k : Int) := by omega
          have HK0 := hide h0
          clear h0
          go_wp2_with fail
          refine HC.out.mono ?_
          rintro e w1 ⟨rfl, hb1⟩
          have KW := hide (GW.out.trans (hb1.mono GW.out.size))
          clear hb1
          go_wp2_with fail
          exact ⟨⟨k + 1, by go_num, by omega, fun r hr => by
            by_cases e : r = k
            · rw [e, HOK.out]
            · exact GN.out r (by omega), KW.out⟩, by simp [intOf]; omega⟩
        · rw [decide_eq_false h0, Bool.false_or] at HOK
          obtain ⟨j, rfl⟩ : ∃ j, k = j + 1 := ⟨k - 1, by omega⟩
          have hlj : j < l.length := by omega
          obtain ⟨b', o', he, hb', hcell'⟩ := HR.out.at_ hlj
          obtain ⟨z, hz⟩ : ∃ z, l[j] = z := ⟨_, rfl⟩
          have hgj : l.getD (j + 1 - 1) [] = z := by rw [← hz]; simp [List.getD, hlj]
          rw [hgj] at HOK
          rw [hz] at hcell'
          obtain ⟨rfl, rfl⟩ : b' = b ∧ o' = o := by simpa [eq_comm] using he
          have HP : Hid (∀ W, Below w.heap.size w W → W.cell? ⟨b', o' + j, none⟩ = some (sv z)) := hide fun W hW => (hW.cell (p := ⟨b', o' + j, none⟩) hb').trans hcell'
          have h00 : (0 : Int) < ((j + 1 : Nat) : Int) := by omega
          have hsub : (((j + 1 : Nat) : Int) - 1) = (j : Int) := by omega
          clear h0 hgj hcell' he hz
          cases hx : sLt z y
          · rw [hx] at HOK
            have hxx : (!Op.bytesLess z y) = true := by rw [show Op.bytesLess z y = false from hx]; rfl
            clear hx
            go_wp2_with fail
            refine HC.out.mono ?_
            rintro e w1 ⟨rfl, hb1⟩
            have KW := hide (GW.out.trans (hb1.mono GW.out.size))
            clear hb1
            have c2 := HP.out _ KW.out
            go_wp2
            go_ret
            exact ⟨ret_eq (by rw [HFL.out HOK.out]; rfl), KW.out⟩
          · rw [hx] at HOK
            have hxx : (!Op.bytesLess z y) = false := by rw [show Op.bytesLess z y = true from hx]; rfl
            clear hx
            go_wp2_with fail
            refine HC.out.mono ?_
            rintro e w1 ⟨rfl, hb1⟩
            have KW := hide (GW.out.trans (hb1.mono GW.out.size))
            clear hb1
            have c2 := HP.out _ KW.out
            go_wp2_with fail
            exact ⟨⟨j + 1 + 1, by go_num, by omega, fun r hr => by
              by_cases e : r = j + 1
              · rw [e, HOK.out]
              · exact GN.out r (by omega), KW.out⟩, by simp [intOf]; omega⟩
    · obtain rfl : k = l.length := by omega
      have HE : Hid (riseV l = decide (l.length ≤ 8)) := hide (by
        unfold riseV
        rw [show (List.range l.length).all (riseOk l) = true from List.all_eq_true.2 fun i hi => GN.out i (List.mem_range.1 hi), Bool.true_and])
      go_wp2
      go_ret
      exact ⟨ret_eq (by rw [HE.out]; first | rfl | (simp; done) | (simp; omega) | (simp; rw [Bool.eq_iff_iff]; simp; omega) | (rw [Bool.eq_iff_iff]; simp; omega) | (simp; rw [Bool.eq_iff_iff]; simp)), GW.out⟩
end Go.Proofs.Ytpnjkebjdclkfaa

/- Values, walked: whether one is right by itself. Conditions: none. -/
namespace Go.Proofs.Ytpnjkebjdclkfaa
open Go.RowKit

/-- Right by itself. -/
def plainV (v : DVal) : Bool :=
  if v.kind = 1 then (decide (v.names.length = 0) && (decide (v.ids.length = 0) && decide (v.parts.length = 0))) && (decide (v.s = []) && (decide (v.n = 0) || decide (v.n = 1)))
  else if v.kind = 2 then (decide (v.names.length = 0) && (decide (v.ids.length = 0) && decide (v.parts.length = 0))) && decide (v.s = [])
  else if v.kind = 3 then (decide (v.names.length = 0) && (decide (v.ids.length = 0) && decide (v.parts.length = 0))) && (decide (v.n = 0) && decide (v.s.length ≤ 64))
  else if v.kind = 4 then (decide (v.names.length = 0) && (decide (v.ids.length = 0) && decide (v.parts.length = 0))) && (decide (v.n = 0) && nameB v.s)
  else if v.kind = 5 then decide (v.n = 0) && (decide (v.s = []) && (decide (v.ids.length = 0) && (decide (v.parts.length = v.names.length) && riseV v.names)))
  else if v.kind = 6 then decide (v.n = 0) && (decide (v.s = []) && (decide (v.names.length = 0) && (decide (v.parts.length = v.ids.length) && idsB v.ids)))
  else false

set_option maxHeartbeats 4000000 in
set_option maxRecDepth 20000 in
theorem valPlain_calls (s : DVal) (cs : List Value) (w : World) (hs : IsVal w (· < w.heap.size) s cs) :
    Calls Try.prog 112 #[.agg cs.toArray] w (Gives (.bool (plainV s)) w) := by
  obtain ⟨hk1, hki⟩ := hs.kind_
  obtain ⟨hn1, hni⟩ := hs.n_
  obtain ⟨hs1, hsl⟩ := hs.s_
  obtain ⟨Aw, cw, hw1, hwr, hwz, hwc, hwm⟩ := hs.names_
  obtain ⟨Ai, ci, hi1, hir, hiz, hic, him⟩ := hs.ids_
  obtain ⟨Ap, cp, C, hp1, hpc, hpm, hP, hA⟩ := hs.partsF
  have HW0 := hide ((Below.refl w.heap.size w).alloc (Nat.le_refl _) (.cells cs.toArray 31))
  have HCN := hide (fun (W : World) => name_calls s.s W hsl)
  have HCR := hide (fun (W : World) (hW : Below w.heap.size w W) => riseV_calls s.names Aw cw W (hwr.more hW) hwz (by omega))
  have HCU := hide (fun (W : World) (hW : Below w.heap.size w W) => ids_calls s.ids Ai ci W (hir.more hW) (by omega) hic)
  have HSP : Hid (plainV s = _) := hide (by unfold plainV; exact rfl)
  clear hs hwr hwz hir hiz hP hA hki hni
  generalize plainV s = res at *
  generalize nameB s.s = bn at *
  generalize riseV s.names = br at *
  generalize idsB s.ids = bu at *
  generalize s.names.length = nn at *
  generalize s.ids.length = ni at *
  generalize s.parts.length = np at *
  generalize s.kind = kd at *
  generalize s.n = num at *
  generalize s.s = x at *
  go_enter Try.func112, Try.ntmps112
  go_upto_region 1 with fail
  go_cut [3] (fun v wx => v = .bool (decide (nn = 0) && (decide (ni = 0) && decide (np = 0))) ∧ wx = w.alloc (.cells cs.toArray 31))
  case first =>
    by_cases h1 : nn = 0
    · have e1 : ((nn : Int) == 0) = true := by simp [h1]
      have g1 := hide (decide_eq_true h1)
      clear h1
      by_cases h2 : ni = 0
      · have e2 : ((ni : Int) == 0) = true := by simp [h2]
        have g2 := hide (decide_eq_true h2)
        clear h2
        by_cases h3 : np = 0
        · have e3 : ((np : Int) == 0) = true := by simp [h3]
          have g3 := hide (decide_eq_true h3)
          clear h3
          go_wp2_with fail
          go_meet
          exact ⟨by rw [g1.out, g2.out, g3.out]; rfl, rfl⟩
        · have e3 : ((np : Int) == 0) = false := by simpa using h3
          have g3 := hide (decide_eq_false h3)
          clear h3
          go_wp2_with fail
          go_meet
          exact ⟨by rw [g1.out, g2.out, g3.out]; rfl, rfl⟩
      · have e2 : ((ni : Int) == 0) = false := by simpa using h2
        have g2 := hide (decide_eq_false h2)
        clear h2
        go_wp2_with fail
        go_meet
        exact ⟨by rw [g1.out, g2.out]; rfl, rfl⟩
    · have e1 : ((nn : Int) == 0) = false := by simpa using h1
      have g1 := hide (decide_eq_false h1)
      clear h1
      go_wp2_with fail
      go_meet
      exact ⟨by rw [g1.out]; rfl, rfl⟩
  case rest =>
    obtain ⟨rfl, rfl⟩ := hcut
    have key : kd = 1 ∨ kd = 2 ∨ kd = 3 ∨ kd = 4 ∨ kd = 5 ∨ kd = 6 ∨ (kd ≠ 1 ∧ kd ≠ 2 ∧ kd ≠ 3 ∧ kd ≠ 4 ∧ kd ≠ 5 ∧ kd ≠ 6) := by omega
    rcases key with rfl | rfl | rfl | rfl | rfl | rfl | ⟨n1, n2, n3, n4, n5, n6⟩
    case inr.inr.inr.inr.inr.inr =>
      have e1 : (kd == 1) = false := by simpa using n1
      have e2 : (kd == 2) = false := by simpa using n2
      have e3 : (kd == 3) = false := by simpa using n3
      have e4 : (kd == 4) = false := by simpa using n4
      have e5 : (kd == 5) = false := by simpa using n5
      have e6 : (kd == 6) = false := by simpa using n6
      have HR : Hid (res = false) := hide (by rw [HSP.out]; simp [n1, n2, n3, n4, n5, n6])
      clear n1 n2 n3 n4 n5 n6 HSP
      go_wp2
      go_ret
      exact ⟨ret_eq (by rw [HR.out]; rfl), HW0.out⟩
    case inl =>
      have HR : Hid (res = ((decide (nn = 0) && (decide (ni = 0) && decide (np = 0))) && (decide (x = []) && (decide (num = 0) || decide (num = 1))))) := hide (by rw [HSP.out]; simp)
      clear HSP
      generalize (decide (nn = 0) && (decide (ni = 0) && decide (np = 0))) = eB at *
      cases eB
      case false =>
        go_wp2
        go_ret
        exact ⟨ret_eq (by rw [HR.out]; rfl), HW0.out⟩
      rw [Bool.true_and] at HR
      by_cases hsE : x = []
      case neg =>
        have fsE : (x == []) = false := by simpa using hsE
        rw [decide_eq_false hsE] at HR
        clear hsE
        go_wp2
        go_ret
        exact ⟨ret_eq (by rw [HR.out]; rfl), HW0.out⟩
      have fsE : (x == []) = true := by simp [hsE]
      rw [decide_eq_true hsE, Bool.true_and] at HR
      clear hsE
      by_cases hn0 : num = 0
      · have fn0 : (num == 0) = true := by simp [hn0]
        rw [decide_eq_true hn0] at HR
        clear hn0
        go_wp2
        go_ret
        exact ⟨ret_eq (by rw [HR.out]; rfl), HW0.out⟩
      · have fn0 : (num == 0) = false := by simpa using hn0
        rw [decide_eq_false hn0] at HR
        clear hn0
        by_cases hn1 : num = 1
        · have fn1 : (num == 1) = true := by simp [hn1]
          rw [decide_eq_true hn1] at HR
          clear hn1
          go_wp2
          go_ret
          exact ⟨ret_eq (by rw [HR.out]; rfl), HW0.out⟩
        · have fn1 : (num == 1) = false := by simpa using hn1
          rw [decide_eq_false hn1] at HR
          clear hn1
          go_wp2
          go_ret
          exact ⟨ret_eq (by rw [HR.out]; rfl), HW0.out⟩
    case inr.inl =>
      have HR : Hid (res = ((decide (nn = 0) && (decide (ni = 0) && decide (np = 0))) && (decide (x = [])))) := hide (by rw [HSP.out]; simp)
      clear HSP
      generalize (decide (nn = 0) && (decide (ni = 0) && decide (np = 0))) = eB at *
      cases eB
      case false =>
        go_wp2
        go_ret
        exact ⟨ret_eq (by rw [HR.out]; rfl), HW0.out⟩
      rw [Bool.true_and] at HR
      by_cases hsE : x = []
      · have fsE : (x == []) = true := by simp [hsE]
        rw [decide_eq_true hsE] at HR
        clear hsE
        go_wp2
        go_ret
        exact ⟨ret_eq (by rw [HR.out]; rfl), HW0.out⟩
      · have fsE : (x == []) = false := by simpa using hsE
        rw [decide_eq_false hsE] at HR
        clear hsE
        go_wp2
        go_ret
        exact ⟨ret_eq (by rw [HR.out]; rfl), HW0.out⟩
    case inr.inr.inl =>
      have HR : Hid (res = ((decide (nn = 0) && (decide (ni = 0) && decide (np = 0))) && (decide (num = 0) && decide (x.length ≤ 64)))) := hide (by rw [HSP.out]; simp)
      clear HSP
      generalize (decide (nn = 0) && (decide (ni = 0) && decide (np = 0))) = eB at *
      cases eB
      case false =>
        go_wp2
        go_ret
        exact ⟨ret_eq (by rw [HR.out]; rfl), HW0.out⟩
      rw [Bool.true_and] at HR
      by_cases hn0 : num = 0
      case neg =>
        have fn0 : (num == 0) = false := by simpa using hn0
        rw [decide_eq_false hn0] at HR
        clear hn0
        go_wp2
        go_ret
        exact ⟨ret_eq (by rw [HR.out]; rfl), HW0.out⟩
      have fn0 : (num == 0) = true := by simp [hn0]
      rw [decide_eq_true hn0, Bool.true_and] at HR
      clear hn0
      by_cases hl64 : x.length ≤ 64
      · have fl64 : (x.length : Int) ≤ 64 := by omega
        rw [decide_eq_true hl64] at HR
        clear hl64
        go_wp2
        go_ret
        exact ⟨ret_eq (by rw [HR.out]; rfl), HW0.out⟩
      · have fl64 : ¬ (x.length : Int) ≤ 64 := by omega
        rw [decide_eq_false hl64] at HR
        clear hl64
        go_wp2
        go_ret
        exact ⟨ret_eq (by rw [HR.out]; rfl), HW0.out⟩
    case inr.inr.inr.inl =>
      have HR : Hid (res = ((decide (nn = 0) && (decide (ni = 0) && decide (np = 0))) && (decide (num = 0) && bn))) := hide (by rw [HSP.out]; simp)
      clear HSP
      generalize (decide (nn = 0) && (decide (ni = 0) && decide (np = 0))) = eB at *
      cases eB
      case false =>
        go_wp2
        go_ret
        exact ⟨ret_eq (by rw [HR.out]; rfl), HW0.out⟩
      rw [Bool.true_and] at HR
      by_cases hn0 : num = 0
      case neg =>
        have fn0 : (num == 0) = false := by simpa using hn0
        rw [decide_eq_false hn0] at HR
        clear hn0
        go_wp2
        go_ret
        exact ⟨ret_eq (by rw [HR.out]; rfl), HW0.out⟩
      have fn0 : (num == 0) = true := by simp [hn0]
      rw [decide_eq_true hn0, Bool.true_and] at HR
      clear hn0
      go_wp2_with fail
      refine (HCN.out _).mono ?_
      rintro e w1 ⟨rfl, hb1⟩
      have HB1 := hide (HW0.out.trans (hb1.mono HW0.out.size))
      clear hb1
      go_wp2
      go_ret
      exact ⟨ret_eq (by rw [HR.out] <;> rfl), HB1.out⟩
    case inr.inr.inr.inr.inl =>
      have HR : Hid (res = (decide (num = 0) && (decide (x = []) && (decide (ni = 0) && (decide (np = nn) && br))))) := hide (by rw [HSP.out]; simp)
      clear HSP
      generalize (decide (nn = 0) && (decide (ni = 0) && decide (np = 0))) = eB at *
      by_cases hn0 : num = 0
      case neg =>
        have fn0 : (num == 0) = false := by simpa using hn0
        rw [decide_eq_false hn0] at HR
        clear hn0
        go_wp2
        go_ret
        exact ⟨ret_eq (by rw [HR.out]; rfl), HW0.out⟩
      have fn0 : (num == 0) = true := by simp [hn0]
      rw [decide_eq_true hn0, Bool.true_and] at HR
      clear hn0
      by_cases hsE : x = []
      case neg =>
        have fsE : (x == []) = false := by simpa using hsE
        rw [decide_eq_false hsE] at HR
        clear hsE
        go_wp2
        go_ret
        exact ⟨ret_eq (by rw [HR.out]; rfl), HW0.out⟩
      have fsE : (x == []) = true := by simp [hsE]
      rw [decide_eq_true hsE, Bool.true_and] at HR
      clear hsE
      by_cases hiE : ni = 0
      case neg =>
        have fiE : ((ni : Int) == 0) = false := by simpa using hiE
        rw [decide_eq_false hiE] at HR
        clear hiE
        go_wp2
        go_ret
        exact ⟨ret_eq (by rw [HR.out]; rfl), HW0.out⟩
      have fiE : ((ni : Int) == 0) = true := by simp [hiE]
      rw [decide_eq_true hiE, Bool.true_and] at HR
      clear hiE
      by_cases hpn : np = nn
      case neg =>
        have fpn : ((np : Int) == (nn : Int)) = false := by simp; omega
        rw [decide_eq_false hpn] at HR
        clear hpn
        go_wp2
        go_ret
        exact ⟨ret_eq (by rw [HR.out]; rfl), HW0.out⟩
      have fpn : ((np : Int) == (nn : Int)) = true := by simp [hpn]
      rw [decide_eq_true hpn, Bool.true_and] at HR
      clear hpn
      go_wp2_with fail
      refine (HCR.out _ HW0.out).mono ?_
      rintro e w1 ⟨rfl, hb1⟩
      have HB1 := hide (HW0.out.trans (hb1.mono HW0.out.size))
      clear hb1
      go_wp2
      go_ret
      exact ⟨ret_eq (by rw [HR.out] <;> rfl), HB1.out⟩
    case inr.inr.inr.inr.inr.inl =>
      have HR : Hid (res = (decide (num = 0) && (decide (x = []) && (decide (nn = 0) && (decide (np = ni) && bu))))) := hide (by rw [HSP.out]; simp)
      clear HSP
      generalize (decide (nn = 0) && (decide (ni = 0) && decide (np = 0))) = eB at *
      by_cases hn0 : num = 0
      case neg =>
        have fn0 : (num == 0) = false := by simpa using hn0
        rw [decide_eq_false hn0] at HR
        clear hn0
        go_wp2
        go_ret
        exact ⟨ret_eq (by rw [HR.out]; rfl), HW0.out⟩
      have fn0 : (num == 0) = true := by simp [hn0]
      rw [decide_eq_true hn0, Bool.true_and] at HR
      clear hn0
      by_cases hsE : x = []
      case neg =>
        have fsE : (x == []) = false := by simpa using hsE
        rw [decide_eq_false hsE] at HR
        clear hsE
        go_wp2
        go_ret
        exact ⟨ret_eq (by rw [HR.out]; rfl), HW0.out⟩
      have fsE : (x == []) = true := by simp [hsE]
      rw [decide_eq_true hsE, Bool.true_and] at HR
      clear hsE
      by_cases hnE : nn = 0
      case neg =>
        have fnE : ((nn : Int) == 0) = false := by simpa using hnE
        rw [decide_eq_false hnE] at HR
        clear hnE
        go_wp2
        go_ret
        exact ⟨ret_eq (by rw [HR.out]; rfl), HW0.out⟩
      have fnE : ((nn : Int) == 0) = true := by simp [hnE]
      rw [decide_eq_true hnE, Bool.true_and] at HR
      clear hnE
      by_cases hpi : np = ni
      case neg =>
        have fpi : ((np : Int) == (ni : Int)) = false := by simp; omega
        rw [decide_eq_false hpi] at HR
        clear hpi
        go_wp2
        go_ret
        exact ⟨ret_eq (by rw [HR.out]; rfl), HW0.out⟩
      have fpi : ((np : Int) == (ni : Int)) = true := by simp [hpi]
      rw [decide_eq_true hpi, Bool.true_and] at HR
      clear hpi
      go_wp2_with fail
      refine (HCU.out _ HW0.out).mono ?_
      rintro e w1 ⟨rfl, rfl⟩
      go_wp2
      go_ret
      exact ⟨ret_eq (by rw [HR.out] <;> rfl), HW0.out⟩
end Go.Proofs.Ytpnjkebjdclkfaa
