/- Schemas and values as trees of the walk; contracts that were shown over memory, handed on to the walk over trees. Conditions: none. -/
import Derived.Test.YtpnjkebjdclkfaaTs
import Derived.Test.YtpnjkebjdclkfaaTree
import Derived.Test.YtpnjkebjdclkfaaOpenRows
namespace Go.Proofs.Ytpnjkebjdclkfaa
open Go.RowKit

def strD (s : Str) : D := .v (sv s)
def u64D (n : Nat) : D := .v (.int .u64 (n : Int))
mutual
def encS : DSch → D
  | .mk k ws ps => .agg [.v (.int .i64 k), .sl .no (ws.map strD), .sl .no (encSs ps)]
def encSs : List DSch → List D
  | [] => []
  | p :: ps => encS p :: encSs ps
end
mutual
def encV : DVal → D
  | .mk k n s ns is ps => .agg [.v (.int .i64 k), .v (.int .i64 n), strD s, .sl .no (ns.map strD), .sl .no (is.map u64D), .sl .no (encVs ps)]
def encVs : List DVal → List D
  | [] => []
  | p :: ps => encV p :: encVs ps
end
theorem encSs_map : ∀ l : List DSch, encSs l = l.map encS
  | [] => rfl
  | p :: l => by simp [encSs, encSs_map l]
theorem encVs_map : ∀ l : List DVal, encVs l = l.map encV
  | [] => rfl
  | p :: l => by simp [encVs, encVs_map l]
theorem encS_eq (s : DSch) : encS s = .agg [.v (.int .i64 s.kind), .sl .no (s.words.map strD), .sl .no (s.parts.map encS)] := by
  obtain ⟨k, ws, ps⟩ := s
  simp [encS, encSs_map, DSch.kind, DSch.words, DSch.parts]
theorem encV_eq (v : DVal) : encV v = .agg [.v (.int .i64 v.kind), .v (.int .i64 v.n), strD v.s, .sl .no (v.names.map strD), .sl .no (v.ids.map u64D), .sl .no (v.parts.map encV)] := by
  obtain ⟨k, n, s, ns, is, ps⟩ := v
  simp [encV, encVs_map, DVal.kind, DVal.n, DVal.s, DVal.names, DVal.ids, DVal.parts]
theorem closed_strs (l : List Str) : allL (fun _ => False) (l.map strD) := allL_iff.2 fun d hd => by
  obtain ⟨s, _, rfl⟩ := List.mem_map.1 hd
  trivial
theorem closed_u64s (l : List Nat) : allL (fun _ => False) (l.map u64D) := allL_iff.2 fun d hd => by
  obtain ⟨s, _, rfl⟩ := List.mem_map.1 hd
  trivial
mutual
theorem closed_encS : ∀ s : DSch, (encS s).closed
  | .mk k ws ps => by simp only [encS, D.closed, D.all, allL, Own.all]; exact ⟨trivial, ⟨trivial, closed_strs ws⟩, ⟨trivial, closed_encSs ps⟩, trivial⟩
theorem closed_encSs : ∀ l : List DSch, allL (fun _ => False) (encSs l)
  | [] => trivial
  | p :: ps => by simp only [encSs, allL]; exact ⟨closed_encS p, closed_encSs ps⟩
end
mutual
theorem closed_encV : ∀ v : DVal, (encV v).closed
  | .mk k n s ns is ps => by simp only [encV, D.closed, D.all, allL, Own.all, strD]; exact ⟨trivial, trivial, trivial, ⟨trivial, closed_strs ns⟩, ⟨trivial, closed_u64s is⟩, ⟨trivial, closed_encVs ps⟩, trivial⟩
theorem closed_encVs : ∀ l : List DVal, allL (fun _ => False) (encVs l)
  | [] => trivial
  | p :: ps => by simp only [encVs, allL]; exact ⟨closed_encV p, closed_encVs ps⟩
end
theorem frz_strs (l : List Str) : frzL (l.map strD) = l.map strD := by simp [frzL_map, strD, D.frz, Function.comp_def]
theorem frz_u64s (l : List Nat) : frzL (l.map u64D) = l.map u64D := by simp [frzL_map, u64D, D.frz, Function.comp_def]
mutual
theorem frz_encS : ∀ s : DSch, (encS s).frz = encS s
  | .mk k ws ps => by simp only [encS, D.frz, frzL, frz_strs, frz_encSs ps]
theorem frz_encSs : ∀ l : List DSch, frzL (encSs l) = encSs l
  | [] => rfl
  | p :: ps => by simp only [encSs, frzL, frz_encS p, frz_encSs ps]
end
mutual
theorem frz_encV : ∀ v : DVal, (encV v).frz = encV v
  | .mk k n s ns is ps => by simp only [encV, D.frz, frzL, frz_strs, frz_u64s, frz_encVs ps, strD]
theorem frz_encVs : ∀ l : List DVal, frzL (encVs l) = encVs l
  | [] => rfl
  | p :: ps => by simp only [encVs, frzL, frz_encV p, frz_encVs ps]
end
theorem frz_mapV (l : List DVal) : frzL (l.map encV) = l.map encV := by rw [← encVs_map, frz_encVs]
theorem frz_mapS (l : List DSch) : frzL (l.map encS) = l.map encS := by rw [← encSs_map, frz_encSs]

/-! What fits the machine's bounds. -/
mutual
def okS : DSch → Prop
  | .mk k ws ps => I64 k ∧ (∀ s ∈ ws, s.length ≤ maxLen) ∧ ws.length ≤ 140737488351232 ∧ ps.length ≤ 140737488351232 ∧ okSs ps
def okSs : List DSch → Prop
  | [] => True
  | p :: ps => okS p ∧ okSs ps
end
mutual
def okV : DVal → Prop
  | .mk k n s ns is ps => I64 k ∧ I64 n ∧ s.length ≤ maxLen ∧ (∀ s ∈ ns, s.length ≤ maxLen) ∧ ns.length ≤ 140737488351232 ∧ (∀ i ∈ is, U64 (i : Int)) ∧ is.length ≤ 140737488351232 ∧ ps.length ≤ 140737488351232 ∧ okVs ps
def okVs : List DVal → Prop
  | [] => True
  | p :: ps => okV p ∧ okVs ps
end
theorem okSs_iff : ∀ {l : List DSch}, okSs l ↔ ∀ p ∈ l, okS p
  | [] => by simp [okSs]
  | p :: l => by simp [okSs, okSs_iff (l := l)]
theorem okVs_iff : ∀ {l : List DVal}, okVs l ↔ ∀ p ∈ l, okV p
  | [] => by simp [okVs]
  | p :: l => by simp [okVs, okVs_iff (l := l)]
theorem okS_eq (s : DSch) : okS s ↔ I64 s.kind ∧ (∀ x ∈ s.words, x.length ≤ maxLen) ∧ s.words.length ≤ 140737488351232 ∧ s.parts.length ≤ 140737488351232 ∧ ∀ p ∈ s.parts, okS p := by
  obtain ⟨k, ws, ps⟩ := s
  simp only [okS, okSs_iff, DSch.kind, DSch.words, DSch.parts]
theorem okV_eq (v : DVal) : okV v ↔ I64 v.kind ∧ I64 v.n ∧ v.s.length ≤ maxLen ∧ (∀ x ∈ v.names, x.length ≤ maxLen) ∧ v.names.length ≤ 140737488351232 ∧ (∀ i ∈ v.ids, U64 (i : Int)) ∧ v.ids.length ≤ 140737488351232 ∧ v.parts.length ≤ 140737488351232 ∧ ∀ p ∈ v.parts, okV p := by
  obtain ⟨k, n, s, ns, is, ps⟩ := v
  simp only [okV, okVs_iff, DVal.kind, DVal.n, DVal.s, DVal.names, DVal.ids, DVal.parts]
theorem IsSch.ok {w : World} {F : Nat → Prop} {s : DSch} {cs : List Value} (h : IsSch w F s cs) : okS s := by
  induction h with
  | mk h1 h2 h3 h4 h5 hA hC hP h6 h7 ih =>
    simp only [okS, okSs_iff]
    refine ⟨h1, h3, h5, h7, fun p hp => ?_⟩
    obtain ⟨i, hi, rfl⟩ := List.getElem_of_mem hp
    exact ih i _ (List.getElem?_eq_getElem hi)
theorem IsVal.ok {w : World} {F : Nat → Prop} {v : DVal} {cs : List Value} (h : IsVal w F v cs) : okV v := by
  induction h with
  | mk h1 h2 h3 h4 h5 h6 h7 h8 h9 h10 h11 hA hC hP h12 h13 ih =>
    simp only [okV, okVs_iff]
    refine ⟨h1, h2, h3, h5, h7, h9, h11, h13, fun p hp => ?_⟩
    obtain ⟨i, hi, rfl⟩ := List.getElem_of_mem hp
    exact ih i _ (List.getElem?_eq_getElem hi)

section
variable {P : Program} {w : World} {η : Names} {X : Nat → Nat → Prop}
/-- A slice of single cells. -/
theorem rep_scalars {F : Nat → Prop} {α : Type} (g : α → Value) (h1 : ∀ a, (g a).oneCell' = true) (hX : ∀ b i, F b → X b i) {A : Option Addr} {c : Nat} {l : List α} (h : RF w F 1 A l.length (l.map g)) (hc : l.length ≤ c) (hn : l.length ≤ 140737488351232) :
    Rep P w η X (.sl .no (l.map fun a => .v (g a))) (.slice A l.length c) := by
  simp only [Rep]
  refine ⟨A, c, by rw [List.length_map], by rw [List.length_map]; exact hc, by rw [List.length_map]; omega, trivial, fun h0 => ?_⟩
  rw [List.length_map] at h0
  obtain ⟨b, o, e, hb, hr⟩ := h.2 h0
  refine ⟨b, o, 1, e, by omega, RepE.mk fun i d hd => ?_⟩
  rw [List.getElem?_map] at hd
  cases hi : l[i]? with
  | none => rw [hi] at hd; cases hd
  | some a =>
    rw [hi] at hd
    injection hd with hd
    subst hd
    have hcell := hr i (g a) (by rw [List.getElem?_map, hi]; rfl)
    rw [Nat.mul_one]
    exact ⟨by simp only [RepA], fun _ => ⟨rfl, hX _ _ hb, g a, hcell, h1 a, by simp only [Rep]⟩⟩
/-- A slice of structs. -/
theorem rep_structs {F : Nat → Prop} {α : Type} (e : α → D) (z : Nat) (hz : 0 < z) (hX : ∀ b i, F b → X b i) {A : Option Addr} {c b o : Nat} {l : List α} {C : Nat → List Value} (hA : 0 < l.length → A = some ⟨b, o, none⟩ ∧ F b)
    (hC : ∀ i a, l[i]? = some a → (C i).length = z ∧ w.rangeAt b (o + i * z) (C i)) (hR : ∀ i a, l[i]? = some a → Rep P w η X (e a) (.agg (C i).toArray)) (hagg : ∀ a, (e a).isAgg = true) (hc : l.length ≤ c) (hn : l.length ≤ 140737488351232) :
    Rep P w η X (.sl .no (l.map e)) (.slice A l.length c) := by
  simp only [Rep]
  refine ⟨A, c, by rw [List.length_map], by rw [List.length_map]; exact hc, by rw [List.length_map]; omega, trivial, fun h0 => ?_⟩
  rw [List.length_map] at h0
  refine ⟨b, o, z, (hA h0).1, hz, RepE.mk fun i d hd => ?_⟩
  rw [List.getElem?_map] at hd
  cases hi : l[i]? with
  | none => rw [hi] at hd; cases hd
  | some a =>
    rw [hi] at hd
    injection hd with hd
    subst hd
    have h1 := hR i a hi
    obtain ⟨h2, h3⟩ := hC i a hi
    cases he : e a with
    | agg ds =>
      rw [he] at h1
      simp only [Rep] at h1
      obtain ⟨vs, h4, h5, h6⟩ := h1
      have : C i = vs := by
        injection h4 with h4
        have := congrArg Array.toList h4
        simpa using this
      rw [this] at h2 h3
      have hlen : ds.length = z := by rw [← h5.length, h2]
      exact ⟨by simp only [RepA]; exact ⟨hlen, RepC.mk h5 h3 (fun j _ => hX _ _ (hA h0).2) h6⟩, fun h => by simp [D.isAgg] at h⟩
    | _ => have := hagg a; rw [he] at this; simp [D.isAgg] at this
theorem encS_agg (s : DSch) : (encS s).isAgg = true := by rw [encS_eq]; rfl
theorem encV_agg (v : DVal) : (encV v).isAgg = true := by rw [encV_eq]; rfl
theorem rep_sch {F : Nat → Prop} (hX : ∀ b i, F b → X b i) {s : DSch} {cs : List Value} (h : IsSch w F s cs) : Rep P w η X (encS s) (.agg cs.toArray) := by
  induction h with
  | mk h1 h2 h3 h4 h5 hA hC hP h6 h7 ih =>
    have r1 := rep_scalars (P := P) (η := η) sv (fun _ => rfl) hX h2 h4 h5
    have r2 := rep_structs (P := P) (η := η) encS 3 (by omega) hX hA hC ih encS_agg h6 h7
    simp only [encS, encSs_map, Rep, RepL]
    refine ⟨_, rfl, ⟨_, _, rfl, rfl, _, _, rfl, r1, _, _, rfl, r2, rfl⟩, by simp [Value.oneCell']⟩
theorem rep_val {F : Nat → Prop} (hX : ∀ b i, F b → X b i) {v : DVal} {cs : List Value} (h : IsVal w F v cs) : Rep P w η X (encV v) (.agg cs.toArray) := by
  induction h with
  | mk h1 h2 h3 h4 h5 h6 h7 h8 h9 h10 h11 hA hC hP h12 h13 ih =>
    have r1 := rep_scalars (P := P) (η := η) sv (fun _ => rfl) hX h4 h6 h7
    have r2 := rep_scalars (P := P) (η := η) uv (fun _ => rfl) hX h8 h10 h11
    have r3 := rep_structs (P := P) (η := η) encV 6 (by omega) hX hA hC ih encV_agg h12 h13
    simp only [encV, encVs_map, strD, Rep, RepL]
    refine ⟨_, rfl, ⟨_, _, rfl, rfl, _, _, rfl, rfl, _, _, rfl, rfl, _, _, rfl, r1, _, _, rfl, r2, _, _, rfl, r3, rfl⟩, by simp [Value.oneCell']⟩
/-- The cells of a slice of single values. -/
theorem scalars_of_rep {α : Type} (g : α → Value) {own : Own} {l : List α} {y : Value} (h : Rep P w η X (.sl own (l.map fun a => .v (g a))) y) : ∃ A c, y = .slice A l.length c ∧ l.length ≤ c ∧ RF w (· < w.heap.size) 1 A l.length (l.map g) := by
  simp only [Rep] at h
  obtain ⟨A, c, rfl, h1, _, _, h2⟩ := h
  rw [List.length_map] at *
  refine ⟨A, c, rfl, h1, by simp, fun h0 => ?_⟩
  obtain ⟨b, o, z, rfl, hz, hr⟩ := h2 h0
  have hel : ∀ j a, l[j]? = some a → w.cell? ⟨b, o + j, none⟩ = some (g a) := fun j a hj => by
    have := RepE.get j hr (d := .v (g a)) (by rw [List.getElem?_map, hj]; rfl)
    obtain ⟨e1, _, x, e2, _, e3⟩ := this.2 rfl
    simp only [Rep] at e3
    rw [e1, Nat.mul_one] at e2
    rw [e2, e3]
  refine ⟨b, o, rfl, ?_, fun j u hu => ?_⟩
  · have h3 := hel 0 _ (List.getElem?_eq_getElem h0)
    exact World.block_lt_of_cell? w _ h3
  · rw [List.getElem?_map] at hu
    cases hj : l[j]? with
    | none => rw [hj] at hu; cases hu
    | some a =>
      rw [hj] at hu
      injection hu with hu
      rw [← hu]
      exact hel j a hj
/-- The rows of a slice of structs. -/
theorem structs_of_rep {α : Type} (e : α → D) (hagg : ∀ a, (e a).isAgg = true) {own : Own} {l : List α} {y : Value} {z : Nat} (hw : ∀ a, (e a).width = z) (hz : 0 < z) (h : Rep P w η X (.sl own (l.map e)) y) :
    ∃ A c b o, ∃ C : Nat → List Value, y = .slice A l.length c ∧ l.length ≤ c ∧ (0 < l.length → A = some ⟨b, o, none⟩ ∧ b < w.heap.size) ∧ (∀ i a, l[i]? = some a → (C i).length = z ∧ w.rangeAt b (o + i * z) (C i)) ∧ ∀ i a, l[i]? = some a → Rep P w η X (e a) (.agg (C i).toArray) := by
  simp only [Rep] at h
  obtain ⟨A, c, rfl, h1, _, _, h2⟩ := h
  rw [List.length_map] at *
  rcases Nat.eq_zero_or_pos l.length with h0 | h0
  · have : l = [] := List.eq_nil_of_length_eq_zero h0
    subst this
    exact ⟨A, c, 0, 0, fun _ => [], rfl, h1, fun h => absurd h (by simp), fun i a ha => by simp at ha, fun i a ha => by simp at ha⟩
  obtain ⟨b, o, z', rfl, hz', hr⟩ := h2 h0
  have key : ∀ i, i < l.length → ∃ vs : List Value, vs.length = z ∧ w.rangeAt b (o + i * z) vs ∧ ∀ a, l[i]? = some a → Rep P w η X (e a) (.agg vs.toArray) := fun i hi => by
    have hel := (RepE.get i hr (d := e l[i]) (by rw [List.getElem?_map, List.getElem?_eq_getElem hi]; rfl)).cells
    have hzz : z' = z := by rw [← hel.1, hw]
    subst hzz
    obtain ⟨vs, k1, k2, k3, k4⟩ := hel.2.range
    refine ⟨vs, by rw [k1]; exact hel.1, k2, fun a ha => ?_⟩
    rw [List.getElem?_eq_getElem hi] at ha
    injection ha with ha
    subst ha
    have hg := hagg l[i]
    revert k3 hg
    cases e l[i] with
    | agg ds => intro k3 _; simp only [Rep]; exact ⟨vs, rfl, k3, k4⟩
    | _ => intro _ hg; simp [D.isAgg] at hg
  refine ⟨_, c, b, o, fun i => if hi : i < l.length then Classical.choose (key i hi) else [], rfl, h1, fun _ => ⟨rfl, ?_⟩, fun i a ha => ?_, fun i a ha => ?_⟩
  · have hk := Classical.choose_spec (key 0 h0)
    have := hk.2.1 0 (Classical.choose (key 0 h0))[0] (List.getElem?_eq_getElem (by rw [hk.1]; exact hz))
    exact World.block_lt_of_cell? w _ this
  · have hi : i < l.length := (List.getElem?_eq_some_iff.1 ha).1
    dsimp only
    rw [dif_pos hi]
    have hk := Classical.choose_spec (key i hi)
    exact ⟨hk.1, hk.2.1⟩
  · have hi : i < l.length := (List.getElem?_eq_some_iff.1 ha).1
    dsimp only
    rw [dif_pos hi]
    exact (Classical.choose_spec (key i hi)).2.2 a ha
theorem width_encS (s : DSch) : (encS s).width = 3 := by rw [encS_eq]; rfl
theorem width_encV (v : DVal) : (encV v).width = 6 := by rw [encV_eq]; rfl
theorem sch_of_rep : ∀ (n : Nat) (s : DSch), s.depth ≤ n → okS s → ∀ {y : Value}, Rep P w η X (encS s) y → ∃ cs : List Value, y = .agg cs.toArray ∧ IsSch w (· < w.heap.size) s cs
  | 0, s, h, _, _, _ => by have := s.depth_pos; omega
  | n + 1, s, hd, hok, y, h => by
    have hdp : ∀ p ∈ s.parts, p.depth < s.depth := fun p hp => DSch.depth_part hp
    obtain ⟨o1, o2, o3, o4, o5⟩ := (okS_eq s).1 hok
    rw [encS_eq] at h
    simp only [Rep, RepL] at h
    obtain ⟨vs, rfl, ⟨_, _, rfl, rfl, _, _, rfl, h2, _, _, rfl, h3, rfl⟩, _⟩ := h
    have h2' := scalars_of_rep (P := P) (w := w) (η := η) (X := X) sv (own := .no) (l := s.words) (by simp only [Rep]; exact h2)
    have h3' := structs_of_rep (P := P) (w := w) (η := η) (X := X) encS encS_agg (own := .no) (l := s.parts) width_encS (by omega) (by simp only [Rep]; exact h3)
    obtain ⟨A1, c1, rfl, g1, g2⟩ := h2'
    obtain ⟨A2, c2, b, o, C, rfl, k1, k2, k3, k4⟩ := h3'
    refine ⟨_, rfl, ?_⟩
    obtain ⟨k, ws, ps⟩ := s
    refine .mk o1 g2 o2 g1 o3 k2 k3 (fun i p hp => ?_) k1 o4
    obtain ⟨cs, e1, e2⟩ := sch_of_rep n p (by have := hdp p (List.mem_of_getElem? hp); omega) (o5 p (List.mem_of_getElem? hp)) (k4 i p hp)
    have : C i = cs := by
      injection e1 with e1
      have := congrArg Array.toList e1
      simpa using this
    rw [this]
    exact e2
theorem val_of_rep : ∀ (n : Nat) (s : DVal), s.depth ≤ n → okV s → ∀ {y : Value}, Rep P w η X (encV s) y → ∃ cs : List Value, y = .agg cs.toArray ∧ IsVal w (· < w.heap.size) s cs
  | 0, s, h, _, _, _ => by have := s.depth_pos; omega
  | n + 1, s, hd, hok, y, h => by
    have hdp : ∀ p ∈ s.parts, p.depth < s.depth := fun p hp => DVal.depth_part hp
    obtain ⟨o1, o2, o3, o4, o5, o6, o7, o8, o9⟩ := (okV_eq s).1 hok
    rw [encV_eq] at h
    simp only [strD, Rep, RepL] at h
    obtain ⟨vs, rfl, ⟨_, _, rfl, rfl, _, _, rfl, rfl, _, _, rfl, rfl, _, _, rfl, h2, _, _, rfl, h4, _, _, rfl, h3, rfl⟩, _⟩ := h
    have h2' := scalars_of_rep (P := P) (w := w) (η := η) (X := X) sv (own := .no) (l := s.names) (by simp only [Rep]; exact h2)
    have h4' := scalars_of_rep (P := P) (w := w) (η := η) (X := X) uv (own := .no) (l := s.ids) (by simp only [Rep]; exact h4)
    have h3' := structs_of_rep (P := P) (w := w) (η := η) (X := X) encV encV_agg (own := .no) (l := s.parts) width_encV (by omega) (by simp only [Rep]; exact h3)
    obtain ⟨A1, c1, rfl, g1, g2⟩ := h2'
    obtain ⟨A3, c3, rfl, g3, g4⟩ := h4'
    obtain ⟨A2, c2, b, o, C, rfl, k1, k2, k3, k4⟩ := h3'
    refine ⟨_, rfl, ?_⟩
    obtain ⟨k, n', s', ns, is, ps⟩ := s
    refine .mk o1 o2 o3 g2 o4 g1 o5 g4 o6 g3 o7 k2 k3 (fun i p hp => ?_) k1 o8
    obtain ⟨cs, e1, e2⟩ := val_of_rep n p (by have := hdp p (List.mem_of_getElem? hp); omega) (o9 p (List.mem_of_getElem? hp)) (k4 i p hp)
    have : C i = cs := by
      injection e1 with e1
      have := congrArg Array.toList e1
      simpa using this
    rw [this]
    exact e2
end
/-! ### Over memory, and over trees -/
section
variable {P : Program} {base : Nat} {S : St} {η : Names} {w : World}
theorem goes_below (h : Mem P base S η w) {w' : World} (hb : Below w.heap.size w w') : Goes P base S η w S η w' := by
  have K : Keep (fun _ => True) w η (Fix P S η) w' η (Fix P S η) := ⟨hb.size, fun b i hlt hx => ⟨hx, hb.cell (p := ⟨b, i, none⟩) hlt⟩, fun _ _ _ hx => hx, fun b cur _ hx => ⟨cur, by rw [hb.block b ((Array.getElem?_eq_some_iff.1 hx).1)]; exact hx, rfl⟩⟩
  refine ⟨⟨Nat.le_trans h.base_ hb.size, h.dead, h.fresh, h.live, h.inj, fun k b hk => ⟨(h.in_ k b hk).1, Nat.lt_of_lt_of_le (h.in_ k b hk).2 hb.size⟩, fun k t cs b h1 h2 => ?_, fun k e n b h1 h2 => ?_⟩, K, hb.mono h.base_⟩
  · obtain ⟨vs, k1, k2, k3⟩ := h.box k t cs b h1 h2
    exact ⟨vs, by rw [hb.block b (h.in_ k b h2).2]; exact k1, RepL.keep K (allL_true _) k2, k3⟩
  · obtain ⟨cur, k1, k2⟩ := h.row k e n b h1 h2
    exact ⟨cur, by rw [hb.block b (h.in_ k b h2).2]; exact k1, k2⟩
/-- A contract over memory, of a plain answer. -/
theorem dpure_of_gives {g : FuncId} {args : List D} {v : Value} (hent : ∀ vs w, (callFunc g vs).run P w = .ok (.enter g vs) w) (h : ∀ (w : World) (η : Names) (X : Nat → Nat → Prop) (vs : List Value), RepL P w η X args vs → Calls P g vs.toArray w (Gives v w)) : DPure P g args (.v v) :=
  fun _ _ η w vs hM hr => ⟨hent _ _, (h w η _ vs hr).mono fun _ _ ⟨he, hb⟩ => ⟨.v v, _, η, v, ⟨rfl, rfl⟩, he, by simp only [Rep], goes_below hM hb⟩⟩
def St.nil : St := ⟨0, fun _ => none⟩
theorem mem_nil (w : World) : Mem P w.heap.size St.nil (fun _ => none) w := ⟨Nat.le_refl _, fun _ _ => rfl, fun _ _ => rfl, (fun _ _ _ h => by cases h), (fun _ _ _ h => by cases h), (fun _ _ h => by cases h), (fun _ _ _ _ h => by cases h), (fun _ _ _ _ h => by cases h)⟩
theorem fix_nil (b i : Nat) : Fix P St.nil (fun _ => none) b i := fun _ _ h => by cases h
/-- A contract over trees, of a plain answer, at a call in any memory. -/
theorem gives_of_dpure {g : FuncId} {args : List D} {v : Value} (h : DPure P g args (.v v)) {w : World} {vs : List Value} (hr : RepL P w (fun _ => none) (Fix P St.nil fun _ => none) args vs) : Calls P g vs.toArray w (Gives v w) :=
  (h St.nil w.heap.size _ w vs (mem_nil w) hr).2.mono fun _ _ ⟨d, S', η', u, ⟨h1, _⟩, h2, h3, h4⟩ => by
    subst h1
    simp only [Rep] at h3
    subst h3
    exact ⟨h2, h4.below⟩
end
theorem empty_toList : (⟨#[]⟩ : ByteArray).toList = [] := by rw [Go.Lib.toList_data]
theorem cells_encV (v : DVal) : (encV v).cells.length = 6 := width_encV v
theorem cells_encS (s : DSch) : (encS s).cells.length = 3 := width_encS s
theorem agg_encV (v : DVal) : D.agg (encV v).cells = encV v := by rw [encV_eq]; rfl
theorem agg_encS (s : DSch) : D.agg (encS s).cells = encS s := by rw [encS_eq]; rfl
theorem take_encV (v : DVal) : (encV v).cells.take 6 = (encV v).cells := List.take_of_length_le (by rw [cells_encV]; omega)
theorem take_encS (s : DSch) : (encS s).cells.take 3 = (encS s).cells := List.take_of_length_le (by rw [cells_encS]; omega)
theorem okCell_encV (v : DVal) : (encV v).okCell = true := by rw [encV_eq]; rfl
theorem okCell_encS (s : DSch) : (encS s).okCell = true := by rw [encS_eq]; rfl
theorem cut_guard {P : Program} {x : D} {want : Bool} {f : Fm} {S : St} {ty : TypeId} {op : Op} {ops : Array Oper} {R J : Fm → St → Prop} {r : List Oper} {dst : Option Tmp} (J' : Fm → St → Prop) (hJ : J = J') (h : ∀ f S, J f S → R f S)
    (k : dguard x want (dopF P f S ty op (dnext P ops J r f dst)) (dskip P ops J r f dst S)) : dguard x want (dopF P f S ty op (dnext P ops R r f dst)) (dskip P ops R r f dst S) := by
  cases x with
  | v u => cases u with
    | bool b => exact ⟨fun e => dop_mono (fun d S' hd => dops_mono h r hd) (k.1 e), fun e => dops_mono h r (k.2 e)⟩
    | _ => exact k
  | tup l => cases l with
    | nil => exact dops_mono h r k
    | cons d l => exact k
  | _ => exact k
attribute [go_sem] empty_toList strB_size cells_encV cells_encS agg_encV agg_encS take_encV take_encS okCell_encV okCell_encS strD u64D
end Go.Proofs.Ytpnjkebjdclkfaa
