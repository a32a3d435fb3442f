/- Texts of a proof, part 5. Conditions: none. -/
import Derived.Test.YtonncfminojejaaMO4
import Derived.Shelf.SlSortCmp.WholeK
import Derived.Lib.QuietBelow
import Derived.Ground.SlsfProg
set_option linter.unusedVariables false
set_option linter.unusedSimpArgs false
namespace Go.Proofs.Ytonncfminojejaa
open Go.RowKit
theorem getD_hash (h : H32) (i : Nat) (hi : i < 32) : (h.1.map bD).getD i undefD = bD (h.1[i]'(by rw [h.2]; exact hi)) := by
  rw [List.getD_eq_getElem?_getD, List.getElem?_map, List.getElem?_eq_getElem (by rw [h.2]; exact hi)]
  rfl
section
set_option maxRecDepth 200000
set_option maxHeartbeats 4000000
theorem valB_drop (a b : List UInt8) (i : Nat) (h : a.length = b.length) (hi : i < a.length) (hs : ∀ j, j < i → a[j]? = b[j]?) (hne : a[i] ≠ b[i]'(by omega)) : (valB a < valB b ↔ a[i].toNat < (b[i]'(by omega)).toNat) := by
  induction i generalizing a b with
  | zero =>
    match a, b, h, hi with
    | x :: a, y :: b, h, _ =>
      have hl : a.length = b.length := by simpa using h
      have := (cmpL_val (x :: a) (y :: b) h).1
      simp only [List.getElem_cons_zero] at hne ⊢
      rw [cmpL, if_neg hne] at this
      have h1 := cmpI_neg x.toNat y.toNat
      have h2 := cmpI_neg (valB (x :: a)) (valB (y :: b))
      rw [this] at h1
      omega
  | succ i ih =>
    match a, b, h, hi with
    | x :: a, y :: b, h, hi =>
      have hl : a.length = b.length := by simpa using h
      have h0 : x = y := by simpa using hs 0 (by omega)
      subst h0
      simp only [List.getElem_cons_succ] at hne ⊢
      have := ih a b hl (by simpa using hi) (fun j hj => by simpa using hs (j + 1) (by omega)) hne
      have hp : 256 ^ a.length = 256 ^ b.length := by rw [hl]
      rw [valB, valB, hp]
      omega
theorem rless_d (a b : H32) : DPure Try.prog 87 [encH a, encH b] (.v (.bool (decide (valH a < valH b)))) := by
  refine dpure_of_dwp mixed Try.func87 rfl (fun _ _ => by kernel_rfl) (rs := [.tmp 4]) rfl (by kernel_rfl) trivial (fun S hS => ?_)
  (simp (disch := first | decide | omega | (simp only [nx]; first | done | omega)) only [go_sem]; (repeat with_reducible refine aI ?_))
  have ha := a.2
  have hb := b.2
  (refine dloop_st (fun t => List.contains [4, 5, 6, 7, 8, 9, 10, 11, 12, 13, 14, 15, 16, 17, 18, 19, 20, 21, 22, 23] t) (by kernel_rfl) ?_ (32) (fun i f => i ≤ 32 ∧ f 5 = .v (.int .i64 (i : Nat)) ∧ (∀ j, j < i → a.1[j]? = b.1[j]?)) ?_ ?_; (exact (by (repeat' first | assumption | refine St.WF.leave ?_ _ | refine St.WF.add ?_ _ | refine St.WF.set ?_ ?_ _ | refine St.WF.grow ?_ _ _ _ | refine St.WF.keep ?_ ?_ | (first | omega | (simp only [RowOk.lo, nx]; first | done | omega))))); (exact ⟨(by omega), (by (first | (simp (disch := first | decide | omega | (simp only [nx]; first | done | omega)) only [go_sem]; first | done | rfl) | rfl)), (fun j hj => by omega)⟩); intro i g tn hn hT hg hI; obtain ⟨le, q5, hs⟩ := hI; have q2 := hg 2 rfl; have q3 := hg 3 rfl; simp (disch := first | decide | omega | (simp only [nx]; first | done | omega)) only [go_sem] at q2 q3; clear hg; have hn' := hn; try simp only [add_next, set_next, grow_next, leave_next, drop_next] at hn')
  by_cases hlt : i < 32
  · have b1 : decide ((i : Int) < 32) = true := by simp; omega
    have w1 : IntKind.i64.wrap ((i : Int) + 1) = ((i + 1 : Nat) : Int) := IntWalk.i64_in _ ⟨by omega, by omega⟩
    have g1 := getD_hash a i hlt
    have g2 := getD_hash b i hlt
    have l1 := len_encH a
    have l2 := len_encH b
    by_cases hx : a.1[i] = b.1[i]
    · have b2 : ((a.1[i].toNat : Int) != (b.1[i].toNat : Int)) = false := by simp [hx]
      (simp (disch := first | decide | omega | (simp only [nx]; first | done | omega)) only [go_sem, q2, q3, q5, b1]; (repeat with_reducible refine aI ?_))
      refine ddraw_mk 7 (by kernel_rfl) ?_
      (simp (disch := first | decide | omega | (simp only [nx]; first | done | omega)) only [go_sem, q2, q3, q5, b1, Nat.mul_one, Nat.zero_add, g1, g2, l1, l2, hlt, bD, b2, w1]; (repeat with_reducible refine aI ?_))
      (refine ⟨by omega, (by (repeat' first | assumption | exact St.Sub.refl _ | exact RowOk.sub (by assumption) (by assumption) | refine St.Sub.trans ?_ (RowOk.sub (by assumption) (by assumption)) | refine St.Sub.add ?_ ?_ _ | refine St.Sub.set ?_ ?_ ?_ _ | refine St.Sub.keep ?_ ?_ | refine St.WF.leave ?_ _ | refine St.WF.add ?_ _ | refine St.WF.set ?_ ?_ _ | refine St.WF.grow ?_ _ _ _ | refine St.WF.keep ?_ ?_ | (first | omega | (simp only [RowOk.lo, nx]; first | done | omega)))), ?_⟩; refine ⟨by omega, ?_, ?_⟩; all_goals (try (first | (simp (disch := first | decide | omega | (simp only [nx]; first | done | omega)) only [go_sem, w1]; first | done | rfl) | rfl)))
      intro j hj
      by_cases e : j = i
      · subst e; rw [List.getElem?_eq_getElem (by omega), List.getElem?_eq_getElem (by omega), hx]
      · exact hs j (by omega)
    · have hne : a.1[i].toNat ≠ b.1[i].toNat := fun h => hx (UInt8.toNat_inj.1 h)
      have b2 : ((a.1[i].toNat : Int) != (b.1[i].toNat : Int)) = true := by simp; omega
      (simp (disch := first | decide | omega | (simp only [nx]; first | done | omega)) only [go_sem, q2, q3, q5, b1]; (repeat with_reducible refine aI ?_))
      refine ddraw_mk 7 (by kernel_rfl) ?_
      (simp (disch := first | decide | omega | (simp only [nx]; first | done | omega)) only [go_sem, q2, q3, q5, b1, Nat.mul_one, Nat.zero_add, g1, g2, l1, l2, hlt, bD, b2, w1]; (repeat with_reducible refine aI ?_))
      refine ddraw_mk 8 (by kernel_rfl) ?_
      (simp (disch := first | decide | omega | (simp only [nx]; first | done | omega)) only [go_sem, q2, q3, q5, b1, Nat.mul_one, Nat.zero_add, g1, g2, l1, l2, hlt, bD, b2, w1]; (repeat with_reducible refine aI ?_))
      refine ⟨?_, (by (repeat' first | assumption | exact St.Sub.refl _ | exact RowOk.sub (by assumption) (by assumption) | refine St.Sub.trans ?_ (RowOk.sub (by assumption) (by assumption)) | refine St.Sub.add ?_ ?_ _ | refine St.Sub.set ?_ ?_ ?_ _ | refine St.Sub.keep ?_ ?_ | refine St.WF.leave ?_ _ | refine St.WF.add ?_ _ | refine St.WF.set ?_ ?_ _ | refine St.WF.grow ?_ _ _ _ | refine St.WF.keep ?_ ?_ | (first | omega | (simp only [RowOk.lo, nx]; first | done | omega))))⟩
      have := valB_drop a.1 b.1 i (by omega) (by omega) hs hx
      simp only [D.frz, D.v.injEq, Value.bool.injEq, decide_eq_decide]
      unfold valH
      omega
  · have b1 : decide ((i : Int) < 32) = false := by simp; omega
    (simp (disch := first | decide | omega | (simp only [nx]; first | done | omega)) only [go_sem, q2, q3, q5, b1]; (repeat with_reducible refine aI ?_))
    refine ⟨?_, (by (repeat' first | assumption | exact St.Sub.refl _ | exact RowOk.sub (by assumption) (by assumption) | refine St.Sub.trans ?_ (RowOk.sub (by assumption) (by assumption)) | refine St.Sub.add ?_ ?_ _ | refine St.Sub.set ?_ ?_ ?_ _ | refine St.Sub.keep ?_ ?_ | refine St.WF.leave ?_ _ | refine St.WF.add ?_ _ | refine St.WF.set ?_ ?_ _ | refine St.WF.grow ?_ _ _ _ | refine St.WF.keep ?_ ?_ | (first | omega | (simp only [RowOk.lo, nx]; first | done | omega))))⟩
    have : a = b := Subtype.ext (List.ext_getElem? fun j => by
      by_cases hj : j < i
      · exact hs j hj
      · rw [List.getElem?_eq_none (by omega), List.getElem?_eq_none (by omega)])
    subst this
    simp [D.frz]
theorem rfl_ltM (a b : DMk) : ltM a b = (decide (a.1 < b.1) || (decide (a.1 = b.1) && decide (valH a.2 < valH b.2))) := by
  unfold ltM
  rw [Bool.eq_iff_iff]
  simp only [decide_eq_true_eq, Bool.or_eq_true, Bool.and_eq_true]
  exact key_lt_iff a b
theorem refLess_d (a b : DMk) : DPure Try.prog 81 [encM a, encM b] (.v (.bool (ltM a b))) := by
  refine dpure_of_dwp mixed Try.func81 rfl (fun _ _ => by kernel_rfl) (rs := [.tmp 4]) rfl (by kernel_rfl) trivial (fun S hS => ?_)
  have g1 := getD_mkCs a
  have g2 := getD_mkCs b
  have d1 : ((mkCs a).drop 1).take 32 = a.2.1.map bD := take_hash a.2
  have d2 : ((mkCs b).drop 1).take 32 = b.2.1.map bD := take_hash b.2
  by_cases h1 : a.1 < b.1
  · have b1 : decide (a.1 < b.1) = true := decide_eq_true h1
    (simp (disch := first | decide | omega | (simp only [nx]; first | done | omega)) only [go_sem, g1, g2, b1]; (repeat with_reducible refine aI ?_))
    refine ⟨?_, (by (repeat' first | assumption | exact St.Sub.refl _ | exact RowOk.sub (by assumption) (by assumption) | refine St.Sub.trans ?_ (RowOk.sub (by assumption) (by assumption)) | refine St.Sub.add ?_ ?_ _ | refine St.Sub.set ?_ ?_ ?_ _ | refine St.Sub.keep ?_ ?_ | refine St.WF.leave ?_ _ | refine St.WF.add ?_ _ | refine St.WF.set ?_ ?_ _ | refine St.WF.grow ?_ _ _ _ | refine St.WF.keep ?_ ?_ | (first | omega | (simp only [RowOk.lo, nx]; first | done | omega))))⟩
    simp [D.frz, rfl_ltM, h1]
  · have b1 : decide (a.1 < b.1) = false := decide_eq_false h1
    by_cases h2 : a.1 = b.1
    · have b2 : (a.1 == b.1) = true := by simpa using h2
      (simp (disch := first | decide | omega | (simp only [nx]; first | done | omega)) only [go_sem, g1, g2, d1, d2, b1, b2]; (repeat with_reducible refine aI ?_))
      refine DCalls.of_pure (rless_d a.2 b.2) ?_
      (simp (disch := first | decide | omega | (simp only [nx]; first | done | omega)) only [go_sem]; (repeat with_reducible refine aI ?_))
      refine ⟨?_, (by (repeat' first | assumption | exact St.Sub.refl _ | exact RowOk.sub (by assumption) (by assumption) | refine St.Sub.trans ?_ (RowOk.sub (by assumption) (by assumption)) | refine St.Sub.add ?_ ?_ _ | refine St.Sub.set ?_ ?_ ?_ _ | refine St.Sub.keep ?_ ?_ | refine St.WF.leave ?_ _ | refine St.WF.add ?_ _ | refine St.WF.set ?_ ?_ _ | refine St.WF.grow ?_ _ _ _ | refine St.WF.keep ?_ ?_ | (first | omega | (simp only [RowOk.lo, nx]; first | done | omega))))⟩
      simp only [D.frz, rfl_ltM, b1, h2, decide_true, Bool.true_and, Bool.false_or, Int.lt_irrefl, decide_false]
    · have b2 : (a.1 == b.1) = false := by simpa using h2
      (simp (disch := first | decide | omega | (simp only [nx]; first | done | omega)) only [go_sem, g1, g2, d1, d2, b1, b2]; (repeat with_reducible refine aI ?_))
      refine ⟨?_, (by (repeat' first | assumption | exact St.Sub.refl _ | exact RowOk.sub (by assumption) (by assumption) | refine St.Sub.trans ?_ (RowOk.sub (by assumption) (by assumption)) | refine St.Sub.add ?_ ?_ _ | refine St.Sub.set ?_ ?_ ?_ _ | refine St.Sub.keep ?_ ?_ | refine St.WF.leave ?_ _ | refine St.WF.add ?_ _ | refine St.WF.set ?_ ?_ _ | refine St.WF.grow ?_ _ _ _ | refine St.WF.keep ?_ ?_ | (first | omega | (simp only [RowOk.lo, nx]; first | done | omega))))⟩
      simp [D.frz, rfl_ltM, h1, h2]
end
end Go.Proofs.Ytonncfminojejaa

namespace Go.Proofs.Ytonncfminojejaa
open Go.RowKit Go.Sort Go.Shelf
section
variable {P : Program} {base : Nat} {S : St} {η : Names} {w : World}
theorem goes_ahead (h : Mem P base S η w) : ∀ n, Goes P base S η w S η (Sort.ahead w n)
  | 0 => Goes.refl h
  | n + 1 => by
    have := goes_ahead h n
    rw [← ahead_drew]
    exact this.trans (goes_drew this.mem)
theorem goes_grow (h : Mem P base S η w) : ∀ os : List Obj, Goes P base S η w S η (grow w os.toArray) := by
  intro os
  induction os generalizing w with
  | nil => simpa using Goes.refl h
  | cons o os ih =>
    have h1 := goes_new h o
    have := h1.trans (ih h1.mem)
    rw [alloc_eq_grow, grow_grow] at this
    simpa using this
theorem mapBlock_setRow {w : World} {b : Nat} {vs : List Value} {t : TypeId} {fr : Nat × Nat} (hb : w.heap[b]? = some (.cells vs.toArray t fr)) (f : Array Value → Array Value) : mapBlock w b f = w.setRow b (f vs.toArray) := by
  unfold mapBlock World.setRow
  congr 1
  apply Array.ext_getElem?
  intro k
  simp only [Array.getElem?_modify]
  by_cases hk : b = k
  · subst hk
    simp only [if_true, hb, Option.map_some, onCells]
  · simp [hk]
theorem putCells_list {off : Nat} {F vs : List Value} (h : off + F.length ≤ vs.length) : putCells id off F.toArray vs.toArray = (vs.take off ++ F ++ vs.drop (off + F.length)).toArray := by
  apply Array.ext_getElem?
  intro k
  simp only [putCells, Array.getElem?_mapIdx, List.getElem?_toArray, List.size_toArray, id_eq]
  by_cases h1 : k < off
  · rw [List.append_assoc, List.getElem?_append_left (by simp; omega), List.getElem?_take_of_lt h1]
    cases vs[k]? with
    | none => rfl
    | some y => rw [Option.map_some, if_neg (by omega)]
  · by_cases h2 : k < off + F.length
    · rw [List.getElem?_append_left (by simp; omega), List.getElem?_append_right (by simp; omega), List.length_take, Nat.min_eq_left (by omega), List.getElem?_eq_getElem (by omega : k - off < F.length), List.getElem?_eq_getElem (by omega : k < vs.length), Option.map_some, if_pos (by omega)]
      have h3 : k - off < F.toArray.size := by simp; omega
      rw [getElem!_pos F.toArray (k - off) h3]
      simp
    · rw [List.getElem?_append_right (by simp; omega), List.getElem?_drop]
      simp only [List.length_append, List.length_take]
      rw [show off + F.length + (k - (min off vs.length + F.length)) = k by omega]
      cases vs[k]? with
      | none => rfl
      | some y => rw [Option.map_some, if_neg (by omega)]
variable {α : Type} [Inhabited α]
theorem flatMap_get {enc : α → List Value} {z : Nat} (hz : ∀ x, (enc x).length = z) : ∀ (l : List α) (t : Nat), t < l.length * z → (l.flatMap enc)[t]? = (enc (l.getD (t / z) default))[t % z]?
  | [], t, h => by simp at h
  | x :: l, t, h => by
    have z0 : 0 < z := by rcases Nat.eq_zero_or_pos z with h' | h'; · subst h'; simp at h
                          · exact h'
    rw [List.flatMap_cons]
    by_cases h1 : t < z
    · rw [List.getElem?_append_left (by rw [hz]; exact h1), Nat.div_eq_of_lt h1, Nat.mod_eq_of_lt h1]
      rfl
    · obtain ⟨u, rfl⟩ : ∃ u, t = u + z := ⟨t - z, by omega⟩
      rw [List.getElem?_append_right (by rw [hz]; omega), hz, Nat.add_sub_cancel, flatMap_get hz l u (by simp only [List.length_cons, Nat.add_mul, Nat.one_mul] at h; omega), Nat.add_mod_right, Nat.add_div_right _ z0]
      rfl
theorem flatMap_len {α : Type} {enc : α → List Value} {z : Nat} (hz : ∀ x, (enc x).length = z) : ∀ l : List α, (l.flatMap enc).length = l.length * z
  | [] => by simp
  | x :: l => by rw [List.flatMap_cons, List.length_append, hz, flatMap_len hz l, List.length_cons, Nat.add_mul, Nat.one_mul, Nat.add_comm]
theorem flatK_list {enc : α → List Value} {z : Nat} (hz : ∀ x, (enc x).length = z) (l : List α) : flatK enc z l.toArray = (l.flatMap enc).toArray := by
  apply Array.ext_getElem?
  intro t
  by_cases h : t < l.length * z
  · have z0 : 0 < z := by rcases Nat.eq_zero_or_pos z with h' | h'; · subst h'; simp at h
                          · exact h'
    have hm : t % z < z := Nat.mod_lt _ z0
    have hd : t / z < l.length := Nat.div_lt_of_lt_mul (by rw [Nat.mul_comm]; exact h)
    rw [List.getElem?_toArray (xs := l.flatMap enc), flatMap_get hz l t h]
    simp only [flatK, Array.getElem?_map, Array.getElem?_range, List.size_toArray, if_pos h, Option.map_some]
    rw [getElem!_pos l.toArray (t / z) (by simpa using hd), List.getD_eq_getElem?_getD, List.getElem?_eq_getElem hd]
    simp only [Option.getD_some, List.getElem_toArray]
    rw [getElem!_pos _ (t % z) (by rw [hz]; exact hm), List.getElem?_eq_getElem (by rw [hz]; exact hm)]
  · rw [Array.getElem?_eq_none (by rw [size_flatK]; simpa using Nat.le_of_not_lt h), List.getElem?_toArray, List.getElem?_eq_none (by rw [flatMap_len hz]; omega)]
theorem repL_vs {X : Nat → Nat → Prop} : ∀ {us vs : List Value}, RepL P w η X (us.map D.v) vs → vs = us
  | [], vs, h => by simpa only [List.map_nil, RepL] using h
  | u :: us, vs, h => by
    simp only [List.map_cons, RepL, Rep] at h
    obtain ⟨x, xs, rfl, rfl, h3⟩ := h
    rw [repL_vs h3]
theorem repL_plain {X : Nat → Nat → Prop} : ∀ us : List Value, RepL P w η X (us.map D.v) us
  | [] => by simp only [List.map_nil, RepL]
  | u :: us => by simp only [List.map_cons, RepL, Rep]; exact ⟨u, us, rfl, rfl, repL_plain us⟩
theorem repL_split {X : Nat → Nat → Prop} : ∀ {l m : List D} {vs : List Value}, RepL P w η X (l ++ m) vs → RepL P w η X l (vs.take l.length) ∧ RepL P w η X m (vs.drop l.length)
  | [], m, vs, h => by simpa only [List.nil_append, List.length_nil, List.take_zero, List.drop_zero, RepL, true_and] using h
  | d :: l, m, vs, h => by
    simp only [List.cons_append, RepL] at h
    obtain ⟨x, xs, rfl, h2, h3⟩ := h
    have := repL_split h3
    simp only [List.length_cons, List.take_succ_cons, List.drop_succ_cons, RepL]
    exact ⟨⟨x, _, rfl, h2, this.1⟩, this.2⟩
theorem flat_enc {α : Type} {enc : α → List Value} {e : α → D} (he : ∀ x, (e x).cells = (enc x).map D.v) : ∀ l : List α, flat (l.map e) = (l.flatMap enc).map D.v
  | [] => rfl
  | x :: l => by
    have := flat_enc he l
    simp only [flat] at this ⊢
    rw [List.map_cons, List.flatMap_cons, List.flatMap_cons, List.map_append, this, he]
theorem sorted_goes (hM : Mem P base S η w) {enc : α → List Value} {z : Nat} (hz : ∀ x, (enc x).length = z) (h1 : ∀ x, ∀ v ∈ enc x, v.oneCell' = true) {e : α → D} (he : ∀ x, (e x).cells = (enc x).map D.v) {k b : Nat} {t : TypeId} {A B : List D} {l l' : List α} (hl : l'.length = l.length)
    (hk : S.ob k = some (.box t (A ++ flat (l.map e) ++ B))) (hb : η k = some (some b)) (n : Nat) (os : Array Obj) :
    HoldsK enc z w b A.length l.toArray ∧ Goes P base S η w (S.set k (.box t (A ++ flat (l'.map e) ++ B))) η (sortWorldK enc z w b A.length n l'.toArray os) := by
  obtain ⟨vs, g1, g2, g3⟩ := hM.box k t _ b hk hb
  rw [flat_enc he, List.append_assoc] at g2
  obtain ⟨s1, s2⟩ := repL_split g2
  obtain ⟨s3, s4⟩ := repL_split s2
  rw [List.length_map, flatMap_len hz] at s3 s4
  have hF := repL_vs s3
  have hlen := g2.length
  simp only [List.length_append, List.length_map, flatMap_len hz] at hlen
  have hA : (vs.take A.length).length = A.length := by rw [List.length_take]; omega
  constructor
  · unfold HoldsK
    rw [flatK_list hz]
    intro i hi
    have hi' : i < l.length * z := by simpa [flatMap_len hz] using hi
    have hget : vs[A.length + i]? = (l.flatMap enc)[i]? := by
      rw [← hF, List.getElem?_take_of_lt hi', List.getElem?_drop]
    constructor
    · simp only [World.cell?, g1, Option.isSome_none, Bool.false_eq_true, if_false, List.getElem?_toArray, id_eq]
      rw [hget, getElem!_pos _ i hi, List.getElem?_eq_getElem (by simpa using hi)]
      simp
    · simp [World.frozen?, g1]
  · have hfit : A.length + (l'.flatMap enc).length ≤ vs.length := by rw [flatMap_len hz, hl]; omega
    have e1 : sortWorldK enc z w b A.length n l'.toArray os = grow (Sort.ahead (w.setRow b (vs.take A.length ++ l'.flatMap enc ++ vs.drop (A.length + (l'.flatMap enc).length)).toArray) n) os := by
      unfold sortWorldK putRowK
      rw [flatK_list hz]
      have : putRow id (Sort.ahead w n) b A.length (l'.flatMap enc).toArray = Sort.ahead (putRow id w b A.length (l'.flatMap enc).toArray) n := rfl
      rw [this]
      unfold putRow
      rw [mapBlock_setRow g1, putCells_list hfit]
    rw [e1]
    have G := goes_set hM (cs' := A ++ flat (l'.map e) ++ B) (vs' := vs.take A.length ++ l'.flatMap enc ++ vs.drop (A.length + (l'.flatMap enc).length)) hk hb (by rw [flat_enc he, flat_enc he]; simp [flatMap_len hz, hl]) (by
        rw [flat_enc he]
        refine RepL.append (RepL.append s1 (repL_plain _)) ?_
        rw [flatMap_len hz, hl]
        rw [List.drop_drop] at s4
        exact s4) (fun x hx => by
        simp only [List.mem_append, List.mem_flatMap] at hx
        rcases hx with (hx | ⟨y, _, hx⟩) | hx
        · exact g3 x (List.mem_of_mem_take hx)
        · exact h1 y x hx
        · exact g3 x (List.mem_of_mem_drop hx))
    have G2 := G.trans (goes_ahead G.mem n)
    exact G2.trans (by simpa using goes_grow G2.mem os.toList)
end
end Go.Proofs.Ytonncfminojejaa

namespace Go.Proofs.Ytonncfminojejaa
open Go.RowKit Go.Sort Go.Shelf
section
variable {P : Program} {ρ : Ren} {S : St} {α : Type} [Inhabited α]
theorem cmp_lays {α : Type} (hmo : mo = true) {enc : α → List Value} (h1 : ∀ x, ∀ v ∈ enc x, v.oneCell' = true) {e : α → D} (he : ∀ x, e x = .agg ((enc x).map D.v)) {cf : α → α → Int} {g : FuncId}
    (eg : ∀ args w, (callFunc g args).run P w = .ok (.enter g args) w) (hcmp : ∀ x y, DPure P g [e x, e y] (.v (.int .i64 (cf x y)))) {W : World} (hg : GlobOk W.heap.size W) (x y : α) :
    Calls P g (#[.agg (enc x).toArray, .agg (enc y).toArray] ++ #[]) W fun e w' => e = .returned (.int .i64 (cf x y)) ∧ ∃ q os', w' = grow (W.drewN q) os' := by
  have hr : RepL P W (fun _ => none) (Fix P St.nil fun _ => none) [e x, e y] [.agg (enc x).toArray, .agg (enc y).toArray] := by
    rw [he, he]
    simp only [RepL, Rep]
    exact ⟨_, _, rfl, ⟨_, rfl, repL_plain _, h1 x⟩, _, _, rfl, ⟨_, rfl, repL_plain _, h1 y⟩, rfl⟩
  rw [Array.append_empty]
  rcases hcmp x y St.nil W.heap.size _ W _ (mem_nil W hg) hr with ⟨_, k⟩ | ⟨d, S', η', u, w', k, _⟩
  · refine k.mono fun _ w' ⟨d, S', η', u, ⟨h1, _⟩, h2, h3, h4⟩ => ?_
    subst h1
    simp only [Rep] at h3
    subst h3
    refine ⟨h2, ?_⟩
    obtain ⟨p, hp⟩ := regrown_of_below h4.below
    have hd := h4.drawn hmo
    have hd2 : w'.drawn = p.d := by rw [hp]; rfl
    refine ⟨p.d - W.drawn, p.os, ?_⟩
    rw [hp]
    congr 1
    unfold redrawn World.drewN
    rw [show W.drawn + (p.d - W.drawn) = p.d by omega]
  · rw [eg] at k
    injection k with k
    cases k
theorem perm_of_permIn {d d' : Array α} (h : PermIn 0 d.size d d') : d'.toList.Perm d.toList := by
  obtain ⟨hs, _, hp⟩ := h
  have e1 : d.extract 0 d.size = d := by simp
  have e2 : d'.extract 0 d.size = d' := by rw [← hs]; simp
  rwa [e1, e2] at hp
theorem pairwise_of_sortedIn {lt : α → α → Bool} {n : Nat} {d : Array α} (hn : n = d.size) (h : SortedIn lt 0 n d) : d.toList.Pairwise fun a b => lt b a = false := by
  rw [List.pairwise_iff_getElem]
  intro i j hi hj hij
  have := h i j (Nat.zero_le _) hij (by rw [hn]; simpa using hj)
  rw [getElem!_pos d i (by simpa using hi), getElem!_pos d j (by simpa using hj)] at this
  simpa using this
theorem dsort (hmo : mo = true) (L : SlLaysF0.n6 P ρ) {z : Nat} (aE : ∀ w, (isAgg (ρ.t 24)).run P w = .ok true w) (zE : ∀ w, (Go.sizeOf (ρ.t 24)).run P w = .ok z w) (hent : ∀ vs w, (callFunc (ρ.f 6) vs).run P w = .ok (.enter (ρ.f 6) vs) w)
    {enc : α → List Value} (hz : ∀ x, (enc x).length = z) (h1 : ∀ x, ∀ v ∈ enc x, v.oneCell' = true) {e : α → D} (he : ∀ x, e x = .agg ((enc x).map D.v)) {cf : α → α → Int} (hO : SWO (ltOf cf)) {g : FuncId}
    (eg : ∀ args w, (callFunc g args).run P w = .ok (.enter g args) w) (hcmp : ∀ x y, DPure P g [e x, e y] (.v (.int .i64 (cf x y)))) {k c : Nat} {t : TypeId} {A B : List D} {l : List α} (hk : S.ob k = some (.box t (A ++ flat (l.map e) ++ B))) (hsz : l.length ≤ 1000000) :
    DCalls P (ρ.f 6) [.win k A.length l.length c, .fn (.func g) [] []] S (fun d T => d = .tup [] ∧ ∃ l' : List α, l'.Perm l ∧ l'.Pairwise (fun a b => ltOf cf b a = false) ∧ T = S.set k (.box t (A ++ flat (l'.map e) ++ B))) := by
  intro base η w vs hM hr
  simp only [RepL] at hr
  obtain ⟨x, xs, rfl, hx, y, ys, rfl, hy, rfl⟩ := hr
  obtain ⟨b, vs0, rfl, hb, hheap, -, -, -, -⟩ := win_live hM hk hx
  simp only [Rep, RepL] at hy
  obtain ⟨us, vs1, rfl, rfl, rfl⟩ := hy
  have hcells : ∀ x, (e x).cells = (enc x).map D.v := fun x => by rw [he]; rfl
  refine .inl ⟨hent _ _, ?_⟩
  have hblk := (hM.in_ k b hb).2
  have H := (sorted_goes hM hz h1 hcells (l' := l) rfl hk hb 0 #[]).1
  have hC : CmpLays P g #[] enc z cf b A.length l.toArray.size w := fun m os dk hdk x y => by
    have G := (sorted_goes hM hz h1 hcells (l' := dk.toList) (by simpa using hdk) hk hb m os).2
    rw [Array.toArray_toList] at G
    exact cmp_lays hmo h1 he eg hcmp (fun p hp => ⟨Nat.lt_of_lt_of_le (G.mem.glob p hp).1 G.mem.base_, (G.mem.glob p hp).2⟩) x y
  have key := AnyQ.slices_SortFunc L z aE zE enc hz h1 cf hO g #[] b A.length c l.toArray w eg hC H hblk (by simp; omega)
  rw [List.size_toArray] at key
  refine key.mono ?_
  rintro e' w' ⟨rfl, d', n, os, hp, hs, rfl⟩
  have hp' := perm_of_permIn (d := l.toArray) (by simpa using hp)
  have hl' : d'.toList.length = l.length := by simpa using hp'.length_eq
  have G := (sorted_goes hM hz h1 hcells (l' := d'.toList) hl' hk hb n os).2
  rw [Array.toArray_toList] at G
  exact ⟨.tup [], _, η, .tuple #[], ⟨rfl, d'.toList, by simpa using hp', pairwise_of_sortedIn (by simpa using hl'.symm) hs, rfl⟩, rfl, by simp only [Rep, RepL]; exact ⟨[], rfl, rfl⟩, G⟩
end
end Go.Proofs.Ytonncfminojejaa

namespace Go.Proofs.Ytonncfminojejaa
open Go.RowKit Go.Sort Go.Shelf
theorem bitsLen_d {P : Program} {ρ : Ren} (L : SlLaysF0.n6 P ρ) (hent : ∀ vs w, (callFunc (ρ.f 15) vs).run P w = .ok (.enter (ρ.f 15) vs) w) (n : Nat) (hn : n < 4611686018427387904) : DPure P (ρ.f 15) [.v (.int .u64 (n : Int))] (.v (.int .i64 (Lib.bitLen n : Nat))) := fun S base η w vs hM hr => by
  simp only [RepL, Rep] at hr
  obtain ⟨x, xs, rfl, rfl, rfl⟩ := hr
  have h := Any.bits_Len (SlLaysF0.n15.bits (P := P) (ρ := ρ) { L with }) (n : Int) w (by omega) (by omega)
  rw [Int.toNat_natCast] at h
  exact .inl ⟨hent _ _, h.mono fun _ _ ⟨h1, h2⟩ => by subst h2; exact ⟨_, S, η, _, ⟨rfl, rfl⟩, h1, by simp only [Rep], Goes.refl hM⟩⟩
section
set_option maxRecDepth 200000
set_option maxHeartbeats 4000000
variable {S : St}
theorem ob_self {S : St} {k : Nat} {o : Ob} (h : S.ob k = some o) : S.set k o = S := by
  cases S with
  | mk n ob =>
    simp only [St.set]
    congr 1
    funext j
    by_cases e : j = k
    · subst e; rw [if_pos rfl]; exact h.symm
    · rw [if_neg e]
end
end Go.Proofs.Ytonncfminojejaa

namespace Go.Proofs.Ytonncfminojejaa
open Go.ChangeShapes Go.WideShapes Go.ChangeAt Go.RowKit Go.Deep Go.Joins
section
set_option maxRecDepth 20000
variable {H : Type} {enc : TypeId × Value → H} {w : World}
theorem hash_of {fuel : Nat} {cs : List Value} {x : DataW H × List MemPlace} (h : DataW.trod enc Try.prog w 0 (fun _ => true) true fuel 44 cs = some x) : ∃ m : H32, cs = m.1.map bV := by
  obtain ⟨l, h1, h2⟩ := open_u8array Try.underlying44 Try.underlying5 (by kernel_rfl) (by kernel_rfl) h
  exact ⟨⟨l, h1⟩, h2⟩
theorem bV_one (h : H32) : ∀ v ∈ h.1.map bV, v.oneCell' = true := fun v hv => by
  obtain ⟨b, _, rfl⟩ := List.mem_map.1 hv
  rfl
theorem encH_vs (m : H32) : encH m = .agg ((m.1.map bV).map D.v) := by
  simp only [encH, List.map_map]
  rfl
theorem rep_hash (m : H32) (η : Names) (X : Nat → Nat → Prop) : Rep Try.prog w η X (encH m) (.agg (m.1.map bV).toArray) := by
  rw [encH_vs]
  simp only [Rep]
  exact ⟨_, rfl, repL_plain _, bV_one m⟩
set_option maxRecDepth 20000 in
theorem open_names {v : Value} {d : DataW H} {p : List MemPlace} {W : World} {base : Nat} (h : DataW.Trod enc Try.prog w 0 (fun _ => true) true 23 v d p) (hs : Sized Try.prog 23 d) (hk : Value.okWide Try.prog W .any base 23 v) :
    ∃ l : List H32, l.length ≤ 140737488351232 ∧ ∀ (η : Names) (X : Nat → Nat → Prop), (∀ b i, X b i) → Rep Try.prog w η X (.sl .no (l.map encH)) v := by
  obtain ⟨l, h1, h2, h3⟩ := open_structs (P := Try.prog) encH (size := 32) (bytes := 32) Try.underlying23 (by kernel_rfl) (by omega) (by kernel_rfl) (by omega) (fun m cs => cs = m.1.map bV) (fun fuel cs x hx hsx _ => hash_of hx) width_encH (fun _ => rfl) (fun s cs hq η X hX => by subst hq; exact rep_hash s η X) h hs hk
  exact ⟨l, h2, h3⟩
end
end Go.Proofs.Ytonncfminojejaa

namespace Go.Proofs.Ytonncfminojejaa
open Go.RowKit
def hk (h : H32) : Int := ((valH h : Nat) : Int)
theorem hk_inj {a b : H32} (h : hk a = hk b) : a = b := valH_inj (by unfold hk at h; omega)
def ltH (a b : H32) : Bool := decide (hk a < hk b)
theorem ltOf_cmpH : ltOf cmpH = ltH := by
  funext a b
  unfold ltOf ltH
  rw [cmpH_val]
  congr 1
  exact propext (cmpI_neg _ _)
theorem swo_cmpH : Go.Sort.SWO (ltOf cmpH) := by
  rw [ltOf_cmpH]
  exact ⟨fun x => by simp [ltH], fun x y z h1 h2 => by simp [ltH] at *; omega, fun x y z h1 h2 => by simp [ltH] at *; omega⟩
def AscH (l : List H32) : Prop := l.Pairwise fun a b => hk a < hk b
theorem ascH_ext : ∀ {a b : List H32}, AscH a → AscH b → (∀ m, m ∈ a ↔ m ∈ b) → a = b
  | [], [], _, _, _ => rfl
  | [], y :: b, _, _, h => absurd ((h y).2 (List.mem_cons_self ..)) (by simp)
  | x :: a, [], _, _, h => absurd ((h x).1 (List.mem_cons_self ..)) (by simp)
  | x :: a, y :: b, ha, hb, h => by
    obtain ⟨a1, a2⟩ := List.pairwise_cons.1 ha
    obtain ⟨b1, b2⟩ := List.pairwise_cons.1 hb
    have hxy : x = y := by
      rcases List.mem_cons.1 ((h x).1 (List.mem_cons_self ..)) with e | e
      · exact e
      · rcases List.mem_cons.1 ((h y).2 (List.mem_cons_self ..)) with e' | e'
        · exact e'.symm
        · have := a1 y e'; have := b1 x e; omega
    subst hxy
    congr 1
    refine ascH_ext a2 b2 fun m => ⟨fun hm => ?_, fun hm => ?_⟩
    · rcases List.mem_cons.1 ((h m).1 (List.mem_cons_of_mem _ hm)) with e | e
      · subst e; have := a1 m hm; omega
      · exact e
    · rcases List.mem_cons.1 ((h m).2 (List.mem_cons_of_mem _ hm)) with e | e
      · subst e; have := b1 m hm; omega
      · exact e
def pack1H (acc : List H32) (x : H32) : List H32 := if acc.getLast? = some x then acc else acc ++ [x]
def packH (l : List H32) : List H32 := l.foldl pack1H []
theorem packH_snoc (l : List H32) (x : H32) : packH (l ++ [x]) = pack1H (packH l) x := by simp [packH]
theorem packH_last (l : List H32) : (packH l).getLast? = l.getLast? := by
  rcases List.eq_nil_or_concat l with rfl | ⟨l, x, rfl⟩
  · rfl
  · rw [List.concat_eq_append, packH_snoc, List.getLast?_append]
    unfold pack1H
    split
    · rename_i h; rw [h]; rfl
    · simp
theorem packH_take (l : List H32) (i : Nat) (h : i + 1 < l.length) : packH (l.take (i + 2)) = if l[i] = l[i + 1] then packH (l.take (i + 1)) else packH (l.take (i + 1)) ++ [l[i + 1]] := by
  rw [List.take_succ_eq_append_getElem h, packH_snoc]
  unfold pack1H
  have e : (packH (l.take (i + 1))).getLast? = some l[i] := by
    rw [packH_last, List.take_succ_eq_append_getElem (by omega), List.getLast?_append]
    simp
  rw [e]
  by_cases h2 : l[i] = l[i + 1]
  · rw [if_pos (by rw [h2]), if_pos h2]
  · rw [if_neg (fun h => h2 (Option.some.inj h)), if_neg h2]
theorem packH_len (l : List H32) : (packH l).length ≤ l.length := by
  induction l using rev_ind with
  | h0 => simp [packH]
  | h1 l x ih => ?_
  · rw [packH_snoc]
    unfold pack1H
    split
    · simp; omega
    · simp; omega
theorem packH_mem (l : List H32) (m : H32) : m ∈ packH l ↔ m ∈ l := by
  induction l using rev_ind with
  | h0 => simp [packH]
  | h1 l x ih => ?_
  · rw [packH_snoc, List.mem_append, List.mem_singleton]
    unfold pack1H
    split
    · rename_i h
      have : x ∈ packH l := List.mem_of_getLast? h
      rw [ih]
      constructor
      · exact .inl
      · rintro (h | rfl)
        · exact h
        · exact ih.1 this
    · rw [List.mem_append, List.mem_singleton, ih]
theorem packH_asc (l : List H32) (h : l.Pairwise fun a b => ltH b a = false) : AscH (packH l) := by
  induction l using rev_ind with
  | h0 => exact List.Pairwise.nil
  | h1 l x ih => ?_
  · obtain ⟨h1, _, h3⟩ := List.pairwise_append.1 h
    have ih := ih h1
    rw [packH_snoc]
    unfold pack1H
    split
    · exact ih
    · rename_i hn
      refine List.pairwise_append.2 ⟨ih, List.pairwise_singleton _ _, fun a ha b hb => ?_⟩
      obtain rfl := List.mem_singleton.1 hb
      have h4 := h3 a ((packH_mem l a).1 ha) b (List.mem_singleton.2 rfl)
      have h5 : ¬ hk b < hk a := by simpa [ltH] using h4
      rcases Int.lt_trichotomy (hk a) (hk b) with h6 | h6 | h6
      · exact h6
      · exfalso
        have e := hk_inj h6
        subst e
        obtain ⟨i, hi, hia⟩ := List.getElem_of_mem ha
        have hne : packH l ≠ [] := fun h => by rw [h] at hi; simp at hi
        rcases Nat.lt_or_ge (i + 1) (packH l).length with h7 | h7
        · have hz := (List.pairwise_iff_getElem.1 ih) i ((packH l).length - 1) hi (by omega) (by omega)
          have hlast : (packH l)[(packH l).length - 1] ∈ packH l := List.getElem_mem _
          have := h3 _ ((packH_mem l _).1 hlast) a (List.mem_singleton.2 rfl)
          simp only [ltH, decide_eq_false_iff_not] at this
          rw [hia] at hz
          omega
        · apply hn
          rw [List.getLast?_eq_getElem?, show (packH l).length - 1 = i by omega, List.getElem?_eq_getElem hi, hia]
      · exact absurd h6 h5
def sortH (l : List H32) : List H32 := (lineM (l.map fun h => ((0 : Int), h))).map (·.2)
theorem lineM_zero (l : List H32) : ∀ m ∈ lineM (l.map fun h => ((0 : Int), h)), m.1 = 0 := fun m hm => by
  rw [mem_lineM] at hm
  obtain ⟨h, _, rfl⟩ := List.mem_map.1 hm
  rfl
theorem mem_sortH (l : List H32) (h : H32) : h ∈ sortH l ↔ h ∈ l := by
  unfold sortH
  rw [List.mem_map]
  constructor
  · rintro ⟨m, hm, rfl⟩
    rw [mem_lineM] at hm
    obtain ⟨x, hx, rfl⟩ := List.mem_map.1 hm
    exact hx
  · intro hh
    exact ⟨(0, h), (mem_lineM _ _).2 (List.mem_map.2 ⟨h, hh, rfl⟩), rfl⟩
theorem ascH_sortH (l : List H32) : AscH (sortH l) := by
  have h1 := asc_lineM (l.map fun h => ((0 : Int), h))
  have h2 := lineM_zero l
  unfold AscH sortH
  rw [List.pairwise_map]
  refine (List.Pairwise.imp_of_mem ?_ h1)
  intro a b ha hb hab
  have := h2 a ha
  have := h2 b hb
  unfold key at hab
  unfold hk
  simp_all
theorem sortH_len (l : List H32) : (sortH l).length ≤ l.length := by
  have := lineM_len (l.map fun h => ((0 : Int), h))
  rw [List.length_map] at this
  unfold sortH
  rw [List.length_map]
  exact this
theorem packH_sort {l l' : List H32} (hp : l'.Perm l) (hs : l'.Pairwise fun a b => ltOf cmpH b a = false) : packH l' = sortH l := by
  rw [ltOf_cmpH] at hs
  exact ascH_ext (packH_asc l' hs) (ascH_sortH l) fun m => by rw [packH_mem, mem_sortH, hp.mem_iff]
end Go.Proofs.Ytonncfminojejaa

namespace Go.Proofs.Ytonncfminojejaa
open Go.RowKit
theorem elMk : elT Try.prog 94 = some 96 := by kernel_rfl
theorem szMk : szOf Try.prog 96 = 33 := by kernel_rfl
theorem byMk : bytesOf Try.prog 96 = 40 := by kernel_rfl
theorem zeMk : zeroT Try.prog 96 = true := by kernel_rfl
theorem wMk (l : List DMk) : ∀ d ∈ l.map encM, d.width = 33 := fun d hd => by obtain ⟨m, _, rfl⟩ := List.mem_map.1 hd; exact width_encM m
theorem frz_encM (m : DMk) : (encM m).frz = encM m := by simp [encM, D.frz, mkCs, frzL, frzL_map, bD, Function.comp_def]
theorem frz_Mks (l : List DMk) : frzL (l.map encM) = l.map encM := by simp [frzL_map, frz_encM, Function.comp_def]
theorem closed_encM (m : DMk) : (encM m).closed := by
  simp only [encM, D.closed, D.all]
  refine allL_iff.2 fun d hd => ?_
  rcases List.mem_cons.1 hd with rfl | hd
  · simp [D.all]
  · obtain ⟨b, _, rfl⟩ := List.mem_map.1 hd
    simp [bD, D.all]
theorem closed_Mks (l : List DMk) : (D.sl .no (l.map encM)).closed := by
  simp only [D.closed, D.all, Own.all, true_and]
  refine allL_iff.2 fun d hd => ?_
  obtain ⟨m, _, rfl⟩ := List.mem_map.1 hd
  exact closed_encM m
theorem calls_fin {P : Program} {g : FuncId} {args : List D} {S : St} {K : D → St → Prop} (h : DCalls P g args S fun d T => DFinT P S T d K) : DCalls P g args S K := fun base η w vs hM hr => by
  rcases h base η w vs hM hr with ⟨h1, h2⟩ | ⟨d, S', η', v, w', h1, ⟨S1, d1, t1, d', S'', q1, q2, q3, q4, q5, q6⟩, h3, h4⟩
  · refine .inl ⟨h1, h2.mono fun e w' ⟨d, S', η', v, ⟨S1, d1, t1, d', S'', q1, q2, q3, q4, q5, q6⟩, he, h3, h4⟩ => ?_⟩
    obtain ⟨η3, t2, t3⟩ := t1 _ _ _ _ h4.mem h3
    obtain ⟨g1, g2⟩ := goes_fin hM (h4.trans t2) q3 q4 q5
    exact ⟨d', S'', _, v, q6, he, g2 d' v q2 (q1 _ _ _ _ _ t3), g1⟩
  · obtain ⟨η3, t2, t3⟩ := t1 _ _ _ _ h4.mem h3
    obtain ⟨g1, g2⟩ := goes_fin hM (h4.trans t2) q3 q4 q5
    exact .inr ⟨d', S'', _, v, w', h1, q6, g2 d' v q2 (q1 _ _ _ _ _ t3), g1⟩
theorem fin_same {S T : St} (hS : S.WF) {d : D} (hc : d.closed) (hs : S.Sub T) : DFin S T d (fun d' T' => d' = d ∧ T' = S) :=
  ⟨d, S, DLe.refl _, D.all_mono (fun _ h => h.elim) hc, hs.next, Nat.le_refl _, fun k o hk => ⟨hs.ob k o hk, hS.lt hk, fun _ _ _ => .inl hk⟩, rfl, rfl⟩
def cur (l : List DMk) (q : Nat) : List DMk := packM (l.take q) ++ l.drop (packM (l.take q)).length
section
set_option maxRecDepth 200000
set_option maxHeartbeats 4000000
end
end Go.Proofs.Ytonncfminojejaa

namespace Go.Proofs.Ytonncfminojejaa
open Go.RowKit Go.Sort Go.Shelf
instance : Inhabited DMk := ⟨(0, ⟨List.replicate 32 0, rfl⟩)⟩
section
set_option maxRecDepth 200000
set_option maxHeartbeats 4000000
variable {S : St}
end
end Go.Proofs.Ytonncfminojejaa

namespace Go.Proofs.Ytonncfminojejaa
open Go.RowKit
section
variable {P : Program} {f : Fm} {S : St} {K : D → St → Prop}
theorem pfinT_ret3 (t u v : Tmp) (S' : St) (d : D) : DQ.pfin P [.tmp t, .tmp u, .tmp v] S d .ret f S' = PFin S S' (.tup [f t, f u, f v]) d := by
  simp [DQ.pfin, dresL, dres, onVal, one]
theorem pfinT_normal3 (t u v : Tmp) (S' : St) (d : D) : DQ.pfin P [.tmp t, .tmp u, .tmp v] S d .normal f S' = PFin S S' (.tup [f t, f u, f v]) d := by
  simp [DQ.pfin, dresL, dres, onVal, one]
theorem inl_ret3 (t u v : Tmp) (S' : St) : DQ.inl P [.tmp t, .tmp u, .tmp v] K .ret f S' = K (.tup [f t, f u, f v]) S' := by simp [DQ.inl, dresL, dres, onVal, one]
theorem inl_normal3 (t u v : Tmp) (S' : St) : DQ.inl P [.tmp t, .tmp u, .tmp v] K .normal f S' = K (.tup [f t, f u, f v]) S' := by simp [DQ.inl, dresL, dres, onVal, one]
attribute [go_sem] pfinT_ret3 pfinT_normal3 inl_ret3 inl_normal3
end
theorem growM_hit {S : St} {own : Own} {e : TypeId} {n : Nat} : (S.grow own e n).ob S.next = some (.row e n) := by
  cases own <;> simp [St.grow, St.leave, St.add, St.drop]
theorem growM_skip {S : St} {own : Own} {e : TypeId} {n j : Nat} (h1 : j ≠ S.next) (h2 : ∀ g, own = .row g → j ≠ g) : (S.grow own e n).ob j = S.ob j := by
  cases own with
  | row g => simp [St.grow, St.leave, St.add, St.drop, h1, h2 g rfl]
  | no => simp [St.grow, St.leave, St.add, h1]
  | full => simp [St.grow, St.leave, St.add, h1]
theorem closed_ins (l : List DMk) (x y : Value) : (D.tup [.sl .no (l.map encM), .v x, .v y]).closed := by
  have := closed_Mks l
  simp only [D.closed, D.all, allL, and_true] at this ⊢
  exact this
theorem app_more {P : Program} {S : St} {t ty e : TypeId} {own own2 : Own} {es es2 : List D} {K : D → St → Prop} (he : elT P t = some e) (hz : zeroT P e = true) (h : own = .full ∨ ∃ g, own = .row g ∧ S.ob g = some (.row e es.length)) (hw : ∀ d ∈ es, d.width = szOf P e) (hx : ∀ d ∈ es2, d.width = szOf P e)
    (hb : es.length + es2.length ≤ 140737488355328) (hb2 : (es.length + es2.length) * bytesOf P e ≤ 140737488355328) (k : K (.sl (.row S.next) (es ++ es2)) (S.grow own e (es.length + es2.length))) : dapp P S t t ty (.sl own es) (.sl own2 es2) K := by
  refine dapp_row ?_
  simp only [dappend, he, hz, true_and, Option.isSome_some]
  refine ⟨hw, hx, ?_, hb, hb2, k⟩
  rcases h with rfl | ⟨g, rfl, h⟩
  · trivial
  · exact h
theorem ahead_step {l : List DMk} {m : DMk} {i : Nat} (h : i ≤ ahead l m) (hi : i < l.length) (ht : ltM l[i] m = true) : i + 1 ≤ ahead l m := by
  rcases Nat.lt_or_ge i (ahead l m) with h1 | h1
  · exact h1
  · exfalso
    have e : i = ahead l m := by omega
    subst e
    have := ahead_ge hi
    exact this (of_decide_eq_true ht)
theorem ahead_end {l : List DMk} {m : DMk} {i : Nat} (h : i ≤ ahead l m) (hi : ∀ h : i < l.length, ltM l[i] m = false) : ahead l m = i := by
  rcases Nat.lt_or_ge i (ahead l m) with h1 | h1
  · have h2 := ahead_le l m
    have h3 := ahead_lt h1 (by omega)
    have := hi (by omega)
    simp only [ltM, decide_eq_false_iff_not] at this
    omega
  · omega
section
set_option maxRecDepth 200000
set_option maxHeartbeats 4000000
theorem refInsert_d (own : Own) (l : List DMk) (m : DMk) (hl : l.length ≤ 1000000) : DPure Try.prog 66 [.sl own (l.map encM), encM m] (.tup [.sl .no ((insM l m).map encM), .v (.int .i64 (ahead l m : Nat)), .v (.bool (freshM l m))]) := by
  refine dpure_of_dwp mixed Try.func66 rfl (fun _ _ => by kernel_rfl) (rs := [.tmp 4, .tmp 5, .tmp 6]) rfl (by kernel_rfl) (closed_ins _ _ _) (fun S hS => ?_)
  (simp (disch := first | decide | omega | (simp only [nx]; first | done | omega)) only [go_sem]; (repeat with_reducible refine aI ?_))
  (refine dloop_st (fun t => List.contains [7, 9, 10, 11, 12, 13, 14, 15, 16, 17, 18, 19, 20, 21, 22] t) (by kernel_rfl) ?_ (l.length) (fun i f => i ≤ l.length ∧ f 7 = .v (.int .i64 (i : Nat)) ∧ (i ≤ ahead l m)) ?_ ?_; (exact (by (repeat' first | assumption | refine St.WF.leave ?_ _ | refine St.WF.add ?_ _ | refine St.WF.set ?_ ?_ _ | refine St.WF.grow ?_ _ _ _ | refine St.WF.keep ?_ ?_ | (first | omega | (simp only [RowOk.lo, nx]; first | done | omega))))); (exact ⟨(by omega), (by (first | (simp (disch := first | decide | omega | (simp only [nx]; first | done | omega)) only [go_sem]; first | done | rfl) | rfl)), (Nat.zero_le _)⟩); intro i g tn hn hT hg hI; obtain ⟨le, q7, hi⟩ := hI; have q0 := hg 0 rfl; have q3 := hg 3 rfl; have q4 := hg 4 rfl; have q5 := hg 5 rfl; have q6 := hg 6 rfl; simp (disch := first | decide | omega | (simp only [nx]; first | done | omega)) only [go_sem] at q0 q3 q4 q5 q6; clear hg; have hn' := hn; try simp only [add_next, set_next, grow_next, leave_next, drop_next] at hn')
  by_cases hgo : i < l.length ∧ ∃ h : i < l.length, ltM l[i] m = true
  · obtain ⟨hlt, _, ht⟩ := hgo
    have b1 : decide ((i : Int) < (l.length : Int)) = true := by simp; omega
    have w1 : IntKind.i64.wrap ((i : Int) + 1) = ((i + 1 : Nat) : Int) := IntWalk.i64_in _ ⟨by omega, by omega⟩
    (simp (disch := first | decide | omega | (simp only [nx]; first | done | omega)) only [go_sem, q0, q3, q7, b1, hlt]; (repeat with_reducible refine aI ?_))
    refine ddraw_mk 12 (by kernel_rfl) ?_
    (simp (disch := first | decide | omega | (simp only [nx]; first | done | omega)) only [go_sem, q0, q3, q7, b1, hlt]; (repeat with_reducible refine aI ?_))
    refine dqgo_mk (refLess_d l[i] m) ?_
    (simp (disch := first | decide | omega | (simp only [nx]; first | done | omega)) only [go_sem, q7, w1, ht]; (repeat with_reducible refine aI ?_))
    (refine ⟨by omega, (by (repeat' first | assumption | exact St.Sub.refl _ | exact RowOk.sub (by assumption) (by assumption) | refine St.Sub.trans ?_ (RowOk.sub (by assumption) (by assumption)) | refine St.Sub.add ?_ ?_ _ | refine St.Sub.set ?_ ?_ ?_ _ | refine St.Sub.keep ?_ ?_ | refine St.WF.leave ?_ _ | refine St.WF.add ?_ _ | refine St.WF.set ?_ ?_ _ | refine St.WF.grow ?_ _ _ _ | refine St.WF.keep ?_ ?_ | (first | omega | (simp only [RowOk.lo, nx]; first | done | omega)))), ?_⟩; refine ⟨by omega, ?_, ?_⟩; all_goals (try (first | (simp (disch := first | decide | omega | (simp only [nx]; first | done | omega)) only [go_sem, w1]; first | done | rfl) | rfl)))
    exact ahead_step hi hlt ht
  · have ha : ahead l m = i := ahead_end hi fun h => by
      cases hx : ltM l[i] m with
      | false => rfl
      | true => exact absurd ⟨h, h, hx⟩ hgo
    by_cases hlt : i < l.length
    · have b1 : decide ((i : Int) < (l.length : Int)) = true := by simp; omega
      have ht : ltM l[i] m = false := by
        cases hx : ltM l[i] m with
        | false => rfl
        | true => exact absurd ⟨hlt, hlt, hx⟩ hgo
      (simp (disch := first | decide | omega | (simp only [nx]; first | done | omega)) only [go_sem, q0, q3, q7, b1, hlt]; (repeat with_reducible refine aI ?_))
      refine ddraw_mk 12 (by kernel_rfl) ?_
      (simp (disch := first | decide | omega | (simp only [nx]; first | done | omega)) only [go_sem, q0, q3, q7, b1, hlt]; (repeat with_reducible refine aI ?_))
      refine dqgo_mk (refLess_d l[i] m) ?_
      (simp (disch := first | decide | omega | (simp only [nx]; first | done | omega)) only [go_sem, q0, q3, q7, ht]; (repeat with_reducible refine aI ?_))
      refine ddraw_mk 12 (by kernel_rfl) ?_
      by_cases he : l[i] = m
      · have b3 : decide (l[i] = m) = true := decide_eq_true he
        (simp (disch := first | decide | omega | (simp only [nx]; first | done | omega)) only [go_sem, q0, q3, q7, b1, hlt, b3]; (repeat with_reducible refine aI ?_))
        refine ⟨?_, (by (repeat' first | assumption | exact St.Sub.refl _ | exact RowOk.sub (by assumption) (by assumption) | refine St.Sub.trans ?_ (RowOk.sub (by assumption) (by assumption)) | refine St.Sub.add ?_ ?_ _ | refine St.Sub.set ?_ ?_ ?_ _ | refine St.Sub.keep ?_ ?_ | refine St.WF.leave ?_ _ | refine St.WF.add ?_ _ | refine St.WF.set ?_ ?_ _ | refine St.WF.grow ?_ _ _ _ | refine St.WF.keep ?_ ?_ | (first | omega | (simp only [RowOk.lo, nx]; first | done | omega))))⟩
        have h1 : l[ahead l m]? = some m := by rw [ha, List.getElem?_eq_getElem hlt, he]
        rw [ha] at h1
        simp only [D.frz, frzL, frz_Mks, insM, freshM, h1, ha, if_true, decide_true, Bool.not_true]
      · have b3 : decide (l[i] = m) = false := decide_eq_false he
        (simp (disch := first | decide | omega | (simp only [nx]; first | done | omega)) only [go_sem, q0, q3, q7, b1, hlt, b3]; (repeat with_reducible refine aI ?_))
        have hne : ¬ l[ahead l m]? = some m := by
          rw [ha]
          first
          | (rw [List.getElem?_eq_getElem hlt]; exact fun h => he (Option.some.inj h))
          | (rw [List.getElem?_eq_none (by omega)]; exact fun h => by cases h)
        have l1 : ((i : Int) ≤ (l.length : Int)) = True := eq_true (by omega)
        have l3 : (∀ d, d ∈ List.map encM l → d.cells.length = 33) = True := eq_true (wMk l)
        have hat : (l.map encM).take i = (l.take i).map encM := List.map_take.symm
        have hTn : S.next + 1 ≤ tn := hn'
        have t0 : ({ next := tn, ob := (S.add (Ob.box 96 (mkCs m))).ob } : St).ob S.next = some (.box 96 (mkCs m)) := by (first | (simp (disch := first | decide | omega | (simp only [nx]; first | done | omega)) only [go_sem]; first | done | rfl) | rfl)
        generalize hTe : ({ next := tn, ob := (S.add (Ob.box 96 (mkCs m))).ob } : St) = T at *
        have hTs : S.Sub T := by rw [← hTe]; exact (by (repeat' first | assumption | exact St.Sub.refl _ | exact RowOk.sub (by assumption) (by assumption) | refine St.Sub.trans ?_ (RowOk.sub (by assumption) (by assumption)) | refine St.Sub.add ?_ ?_ _ | refine St.Sub.set ?_ ?_ ?_ _ | refine St.Sub.keep ?_ ?_ | refine St.WF.leave ?_ _ | refine St.WF.add ?_ _ | refine St.WF.set ?_ ?_ _ | refine St.WF.grow ?_ _ _ _ | refine St.WF.keep ?_ ?_ | (first | omega | (simp only [RowOk.lo, nx]; first | done | omega))))
        have hTn2 : T.next = tn := by rw [← hTe]
        clear hTe
        have g1 : ∀ j a, j < T.next → (T.grow .full 96 a).ob j = T.ob j := fun j a h => growM_skip (by omega) (fun _ h => by cases h)
        have g2 : ∀ j a b, j < T.next → ((T.grow .full 96 a).grow (.row T.next) 96 b).ob j = T.ob j := fun j a b h => (growM_skip (by rw [grow_next]; omega) (fun g h => by injection h with h; omega)).trans (g1 j a h)
        have g3 : ∀ j a b c, j < T.next → (((T.grow .full 96 a).grow (.row T.next) 96 b).grow (.row (T.next + 1)) 96 c).ob j = T.ob j := fun j a b c h => (growM_skip (by rw [grow_next, grow_next]; omega) (fun g h => by injection h with h; omega)).trans (g2 j a b h)
        refine ddraw_any (fun S' => S'.ob S.next = some (.box 96 (mkCs m))) 9 (by (first | (simp (disch := first | decide | omega | (simp only [nx]; first | done | omega)) only [go_sem, t0]; first | done | rfl) | rfl)) (by kernel_rfl) ?_
        (refine s_take 0 rfl (by kernel_rfl) (by kernel_rfl) (v := ?v1) (fun S' hz => dquietR_of ?h1) <| s_take 1 rfl (by kernel_rfl) (by kernel_rfl) (v := ?v2) (fun S' hz => dquietR_of ?h2) <| s_take 2 rfl (by kernel_rfl) (by kernel_rfl) (v := ?v3) (fun S' hz => dquietR_of ?h3) <| s_take 5 rfl (by kernel_rfl) (by kernel_rfl) (v := ?v4) (fun S' hz => dquietR_of ?h4) <| s_take 6 rfl (by kernel_rfl) (by kernel_rfl) (v := ?v5) (fun S' hz => dquietR_of ?h5) <| ?k5; (case h1 | h2 | h3 | h4 | h5 => ((simp (disch := first | decide | omega | (simp only [nx]; first | done | omega)) only [go_sem, q0, q3, q7, hz]; (repeat with_reducible refine aI ?_)); first | done | exact rfl | omega)))
        (refine s_take 3 rfl (by kernel_rfl) (by kernel_rfl) (v := .sl .no ((l.map encM).take i)) (fun S' hz => dquietR_of (by (simp (disch := first | decide | omega | (simp only [nx]; first | done | omega)) only [go_sem, q0, q7, l1, true_or]; (repeat with_reducible refine aI ?_)); first | done | rfl | omega)) ?_)
        (refine s_split [4] (by kernel_rfl) (by simp) ?_; intro j_ hj_; obtain rfl : j_ = 4 := (by simpa using hj_); clear hj_; refine s_op rfl ?_; (simp (disch := first | decide | omega | (simp only [nx]; first | done | omega)) only [go_sem]; (repeat with_reducible refine aI ?_)))
        refine app_more elMk zeMk (.inl rfl) (fun _ h => by cases h) (fun d hd => by rw [szMk]; exact wMk l d (List.mem_of_mem_take hd)) (by simp only [List.length_take, List.length_map, List.length_nil]; omega) (by simp only [byMk, List.length_take, List.length_map, List.length_nil]; omega) ?_
        refine ⟨(g1 _ _ (by omega)).trans t0, ?_⟩
        (refine s_split [7] (by kernel_rfl) (by simp) ?_; intro j_ hj_; obtain rfl : j_ = 7 := (by simpa using hj_); clear hj_; refine s_op rfl ?_; (simp (disch := first | decide | omega | (simp only [nx]; first | done | omega)) only [go_sem]; (repeat with_reducible refine aI ?_)))
        refine app_more elMk zeMk (.inr ⟨_, rfl, growM_hit⟩) (fun d hd => by rw [szMk]; exact wMk l d (List.mem_of_mem_take hd)) (fun d hd => by obtain rfl := List.mem_singleton.1 hd; rw [szMk]; exact width_encM m) (by simp only [List.length_take, List.length_map, List.length_nil, List.length_cons]; omega) (by simp only [byMk, List.length_take, List.length_map, List.length_nil, List.length_cons]; omega) ?_
        refine ⟨(g2 _ _ _ (by omega)).trans t0, ?_⟩
        (refine s_take 8 rfl (by kernel_rfl) (by kernel_rfl) (v := ?v6) (fun S' hz => dquietR_of ?h6) ?k6; (case h6 => ((simp (disch := first | decide | omega | (simp only [nx]; first | done | omega)) only [go_sem, q0, q3, q7, hz]; (repeat with_reducible refine aI ?_)); first | done | exact rfl | omega)))
        (refine s_done (by kernel_rfl) ?_; (simp (disch := first | decide | omega | (simp only [nx]; first | done | omega)) only [go_sem, q0, q3, q7, l1, l3, or_true]; (repeat with_reducible refine aI ?_)))
        rw [List.take_of_length_le (by rw [List.length_map]; omega : (l.map encM).length ≤ l.length)]
        refine app_more elMk zeMk (.inr ⟨_, rfl, ?_⟩) (fun d hd => ?_) (fun d hd => by rw [szMk]; exact wMk l d (List.mem_of_mem_drop hd)) (by simp only [List.length_take, List.length_drop, List.length_append, List.length_map, List.length_nil, List.length_cons]; omega) (by simp only [byMk, List.length_take, List.length_drop, List.length_append, List.length_map, List.length_nil, List.length_cons]; omega) ?_
        · have hh := growM_hit (S := T.grow .full 96 (List.take i (List.map encM l)).length) (own := .row T.next) (e := 96) (n := (List.take i (List.map encM l)).length + 1)
          rw [grow_next] at hh
          simp only [List.length_append]
          exact hh
        · rcases List.mem_append.1 hd with hd | hd
          · rw [szMk]; exact wMk l d (List.mem_of_mem_take hd)
          · obtain rfl := List.mem_singleton.1 hd; rw [szMk]; exact width_encM m
        (simp (disch := first | decide | omega | (simp only [nx]; first | done | omega)) only [go_sem, q0, q3, q7]; (repeat with_reducible refine aI ?_))
        have hcc : List.take i (List.map encM l) ++ [encM m] ++ List.drop i (List.map encM l) = (insM l m).map encM := by
          unfold insM
          rw [if_neg hne, ha]
          simp
        rw [hcc]
        refine ⟨?_, ?_⟩
        · have hfr : freshM l m = true := by unfold freshM; rw [decide_eq_false hne]; rfl
          simp only [D.frz, frzL, frz_Mks, hfr, ha]
        · have hTx := hTs.next
          refine ⟨by show S.next ≤ T.next + 1 + 1 + 1; omega, fun j ob e => ?_⟩
          have hj := hS.lt e
          rw [g3 _ _ _ _ (by omega)]
          exact hTs.ob _ _ e
    · have b1 : decide ((i : Int) < (l.length : Int)) = false := by simp; omega
      (simp (disch := first | decide | omega | (simp only [nx]; first | done | omega)) only [go_sem, q0, q3, q7, b1]; (repeat with_reducible refine aI ?_))
      refine ddraw_mk 12 (by kernel_rfl) ?_
      (simp (disch := first | decide | omega | (simp only [nx]; first | done | omega)) only [go_sem, q0, q3, q7, b1]; (repeat with_reducible refine aI ?_))
      refine ddraw_mk 12 (by kernel_rfl) ?_
      (simp (disch := first | decide | omega | (simp only [nx]; first | done | omega)) only [go_sem, q0, q3, q7, b1]; (repeat with_reducible refine aI ?_))
      have hne : ¬ l[ahead l m]? = some m := by
        rw [ha]
        first
        | (rw [List.getElem?_eq_getElem hlt]; exact fun h => he (Option.some.inj h))
        | (rw [List.getElem?_eq_none (by omega)]; exact fun h => by cases h)
      have l1 : ((i : Int) ≤ (l.length : Int)) = True := eq_true (by omega)
      have l3 : (∀ d, d ∈ List.map encM l → d.cells.length = 33) = True := eq_true (wMk l)
      have hat : (l.map encM).take i = (l.take i).map encM := List.map_take.symm
      have hTn : S.next + 1 ≤ tn := hn'
      have t0 : ({ next := tn, ob := (S.add (Ob.box 96 (mkCs m))).ob } : St).ob S.next = some (.box 96 (mkCs m)) := by (first | (simp (disch := first | decide | omega | (simp only [nx]; first | done | omega)) only [go_sem]; first | done | rfl) | rfl)
      generalize hTe : ({ next := tn, ob := (S.add (Ob.box 96 (mkCs m))).ob } : St) = T at *
      have hTs : S.Sub T := by rw [← hTe]; exact (by (repeat' first | assumption | exact St.Sub.refl _ | exact RowOk.sub (by assumption) (by assumption) | refine St.Sub.trans ?_ (RowOk.sub (by assumption) (by assumption)) | refine St.Sub.add ?_ ?_ _ | refine St.Sub.set ?_ ?_ ?_ _ | refine St.Sub.keep ?_ ?_ | refine St.WF.leave ?_ _ | refine St.WF.add ?_ _ | refine St.WF.set ?_ ?_ _ | refine St.WF.grow ?_ _ _ _ | refine St.WF.keep ?_ ?_ | (first | omega | (simp only [RowOk.lo, nx]; first | done | omega))))
      have hTn2 : T.next = tn := by rw [← hTe]
      clear hTe
      have g1 : ∀ j a, j < T.next → (T.grow .full 96 a).ob j = T.ob j := fun j a h => growM_skip (by omega) (fun _ h => by cases h)
      have g2 : ∀ j a b, j < T.next → ((T.grow .full 96 a).grow (.row T.next) 96 b).ob j = T.ob j := fun j a b h => (growM_skip (by rw [grow_next]; omega) (fun g h => by injection h with h; omega)).trans (g1 j a h)
      have g3 : ∀ j a b c, j < T.next → (((T.grow .full 96 a).grow (.row T.next) 96 b).grow (.row (T.next + 1)) 96 c).ob j = T.ob j := fun j a b c h => (growM_skip (by rw [grow_next, grow_next]; omega) (fun g h => by injection h with h; omega)).trans (g2 j a b h)
      refine ddraw_any (fun S' => S'.ob S.next = some (.box 96 (mkCs m))) 9 (by (first | (simp (disch := first | decide | omega | (simp only [nx]; first | done | omega)) only [go_sem, t0]; first | done | rfl) | rfl)) (by kernel_rfl) ?_
      (refine s_take 0 rfl (by kernel_rfl) (by kernel_rfl) (v := ?v7) (fun S' hz => dquietR_of ?h7) <| s_take 1 rfl (by kernel_rfl) (by kernel_rfl) (v := ?v8) (fun S' hz => dquietR_of ?h8) <| s_take 2 rfl (by kernel_rfl) (by kernel_rfl) (v := ?v9) (fun S' hz => dquietR_of ?h9) <| s_take 5 rfl (by kernel_rfl) (by kernel_rfl) (v := ?v10) (fun S' hz => dquietR_of ?h10) <| s_take 6 rfl (by kernel_rfl) (by kernel_rfl) (v := ?v11) (fun S' hz => dquietR_of ?h11) <| ?k11; (case h7 | h8 | h9 | h10 | h11 => ((simp (disch := first | decide | omega | (simp only [nx]; first | done | omega)) only [go_sem, q0, q3, q7, hz]; (repeat with_reducible refine aI ?_)); first | done | exact rfl | omega)))
      (refine s_take 3 rfl (by kernel_rfl) (by kernel_rfl) (v := .sl .no ((l.map encM).take i)) (fun S' hz => dquietR_of (by (simp (disch := first | decide | omega | (simp only [nx]; first | done | omega)) only [go_sem, q0, q7, l1, true_or]; (repeat with_reducible refine aI ?_)); first | done | rfl | omega)) ?_)
      (refine s_split [4] (by kernel_rfl) (by simp) ?_; intro j_ hj_; obtain rfl : j_ = 4 := (by simpa using hj_); clear hj_; refine s_op rfl ?_; (simp (disch := first | decide | omega | (simp only [nx]; first | done | omega)) only [go_sem]; (repeat with_reducible refine aI ?_)))
      refine app_more elMk zeMk (.inl rfl) (fun _ h => by cases h) (fun d hd => by rw [szMk]; exact wMk l d (List.mem_of_mem_take hd)) (by simp only [List.length_take, List.length_map, List.length_nil]; omega) (by simp only [byMk, List.length_take, List.length_map, List.length_nil]; omega) ?_
      refine ⟨(g1 _ _ (by omega)).trans t0, ?_⟩
      (refine s_split [7] (by kernel_rfl) (by simp) ?_; intro j_ hj_; obtain rfl : j_ = 7 := (by simpa using hj_); clear hj_; refine s_op rfl ?_; (simp (disch := first | decide | omega | (simp only [nx]; first | done | omega)) only [go_sem]; (repeat with_reducible refine aI ?_)))
      refine app_more elMk zeMk (.inr ⟨_, rfl, growM_hit⟩) (fun d hd => by rw [szMk]; exact wMk l d (List.mem_of_mem_take hd)) (fun d hd => by obtain rfl := List.mem_singleton.1 hd; rw [szMk]; exact width_encM m) (by simp only [List.length_take, List.length_map, List.length_nil, List.length_cons]; omega) (by simp only [byMk, List.length_take, List.length_map, List.length_nil, List.length_cons]; omega) ?_
      refine ⟨(g2 _ _ _ (by omega)).trans t0, ?_⟩
      (refine s_take 8 rfl (by kernel_rfl) (by kernel_rfl) (v := ?v12) (fun S' hz => dquietR_of ?h12) ?k12; (case h12 => ((simp (disch := first | decide | omega | (simp only [nx]; first | done | omega)) only [go_sem, q0, q3, q7, hz]; (repeat with_reducible refine aI ?_)); first | done | exact rfl | omega)))
      (refine s_done (by kernel_rfl) ?_; (simp (disch := first | decide | omega | (simp only [nx]; first | done | omega)) only [go_sem, q0, q3, q7, l1, l3, or_true]; (repeat with_reducible refine aI ?_)))
      rw [List.take_of_length_le (by rw [List.length_map]; omega : (l.map encM).length ≤ l.length)]
      refine app_more elMk zeMk (.inr ⟨_, rfl, ?_⟩) (fun d hd => ?_) (fun d hd => by rw [szMk]; exact wMk l d (List.mem_of_mem_drop hd)) (by simp only [List.length_take, List.length_drop, List.length_append, List.length_map, List.length_nil, List.length_cons]; omega) (by simp only [byMk, List.length_take, List.length_drop, List.length_append, List.length_map, List.length_nil, List.length_cons]; omega) ?_
      · have hh := growM_hit (S := T.grow .full 96 (List.take i (List.map encM l)).length) (own := .row T.next) (e := 96) (n := (List.take i (List.map encM l)).length + 1)
        rw [grow_next] at hh
        simp only [List.length_append]
        exact hh
      · rcases List.mem_append.1 hd with hd | hd
        · rw [szMk]; exact wMk l d (List.mem_of_mem_take hd)
        · obtain rfl := List.mem_singleton.1 hd; rw [szMk]; exact width_encM m
      (simp (disch := first | decide | omega | (simp only [nx]; first | done | omega)) only [go_sem, q0, q3, q7]; (repeat with_reducible refine aI ?_))
      have hcc : List.take i (List.map encM l) ++ [encM m] ++ List.drop i (List.map encM l) = (insM l m).map encM := by
        unfold insM
        rw [if_neg hne, ha]
        simp
      rw [hcc]
      refine ⟨?_, ?_⟩
      · have hfr : freshM l m = true := by unfold freshM; rw [decide_eq_false hne]; rfl
        simp only [D.frz, frzL, frz_Mks, hfr, ha]
      · have hTx := hTs.next
        refine ⟨by show S.next ≤ T.next + 1 + 1 + 1; omega, fun j ob e => ?_⟩
        have hj := hS.lt e
        rw [g3 _ _ _ _ (by omega)]
        exact hTs.ob _ _ e
end
end Go.Proofs.Ytonncfminojejaa

namespace Go.Proofs.Ytonncfminojejaa
open Go.RowKit
def own0 (i : Nat) : Own := bif Nat.beq i 0 then .full else .no
theorem own0_succ (i : Nat) : own0 (i + 1) = .no := rfl
theorem lineM_take {l : List DMk} {i : Nat} (h : i < l.length) : lineM (l.take (i + 1)) = insM (lineM (l.take i)) l[i] := by
  rw [List.take_succ_eq_append_getElem h, lineM, List.foldl_append]
  rfl
theorem lineM_takeLen (l : List DMk) (i : Nat) : (lineM (l.take i)).length ≤ l.length := by
  have := lineM_len (l.take i)
  rw [List.length_take] at this
  omega
theorem frz_encH (h : H32) : (encH h).frz = encH h := by simp [encH, D.frz, frzL_map, bD, Function.comp_def]
theorem frz_Hs (l : List H32) : frzL (l.map encH) = l.map encH := by simp [frzL_map, frz_encH, Function.comp_def]
theorem closed_encH (h : H32) : (encH h).closed := by
  simp only [encH, D.closed, D.all]
  refine allL_iff.2 fun d hd => ?_
  obtain ⟨b, _, rfl⟩ := List.mem_map.1 hd
  simp [bD, D.all]
theorem closed_Hs (l : List H32) : (D.sl .no (l.map encH)).closed := by
  simp only [D.closed, D.all, Own.all, true_and]
  refine allL_iff.2 fun d hd => ?_
  obtain ⟨m, _, rfl⟩ := List.mem_map.1 hd
  exact closed_encH m
theorem wHs (l : List H32) : ∀ d ∈ l.map encH, d.width = 32 := fun d hd => by obtain ⟨m, _, rfl⟩ := List.mem_map.1 hd; exact width_encH m
section
set_option maxRecDepth 200000
set_option maxHeartbeats 4000000
theorem refSort_d (own : Own) (l : List DMk) (hl : l.length ≤ 1000000) : DPure Try.prog 54 [.sl own (l.map encM)] (.sl .no ((lineM l).map encM)) := by
  refine dpure_of_dwp mixed Try.func54 rfl (fun _ _ => by kernel_rfl) (rs := [.tmp 2]) rfl (by kernel_rfl) (closed_Mks _) (fun S hS => ?_)
  (simp (disch := first | decide | omega | (simp only [nx]; first | done | omega)) only [go_sem]; (repeat with_reducible refine aI ?_))
  (refine dloop_st (fun t => List.contains [3, 4, 5, 6, 7, 8, 9, 10, 11, 12, 13, 14, 15, 16, 17, 18, 19, 20] t) (by kernel_rfl) ?_ (l.length) (fun i f => i ≤ l.length ∧ f 4 = .v (.int .i64 (i : Nat)) ∧ f 3 = .sl (own0 i) ((lineM (l.take i)).map encM)) ?_ ?_; (exact (by (repeat' first | assumption | refine St.WF.leave ?_ _ | refine St.WF.add ?_ _ | refine St.WF.set ?_ ?_ _ | refine St.WF.grow ?_ _ _ _ | refine St.WF.keep ?_ ?_ | (first | omega | (simp only [RowOk.lo, nx]; first | done | omega))))); (exact ⟨(by omega), (by (first | (simp (disch := first | decide | omega | (simp only [nx]; first | done | omega)) only [go_sem]; first | done | rfl) | rfl)), (by (first | (simp (disch := first | decide | omega | (simp only [nx]; first | done | omega)) only [go_sem]; first | done | rfl) | rfl))⟩); intro i g tn hn hT hg hI; obtain ⟨le, q4, q3⟩ := hI; have q0 := hg 0 rfl; have q2 := hg 2 rfl; simp (disch := first | decide | omega | (simp only [nx]; first | done | omega)) only [go_sem] at q0 q2; clear hg; have hn' := hn; try simp only [add_next, set_next, grow_next, leave_next, drop_next] at hn')
  by_cases hlt : i < l.length
  · have b1 : decide ((i : Int) < (l.length : Int)) = true := by simp; omega
    have w1 : IntKind.i64.wrap ((i : Int) + 1) = ((i + 1 : Nat) : Int) := IntWalk.i64_in _ ⟨by omega, by omega⟩
    have hi := lineM_takeLen l i
    have ht := lineM_take hlt
    (simp (disch := first | decide | omega | (simp only [nx]; first | done | omega)) only [go_sem, q0, q3, q4, b1, hlt]; (repeat with_reducible refine aI ?_))
    refine DCalls.of_pure (refInsert_d (own0 i) (lineM (l.take i)) l[i] (by omega)) ?_
    (simp (disch := first | decide | omega | (simp only [nx]; first | done | omega)) only [go_sem, q4, w1]; (repeat with_reducible refine aI ?_))
    (refine ⟨by omega, (by (repeat' first | assumption | exact St.Sub.refl _ | exact RowOk.sub (by assumption) (by assumption) | refine St.Sub.trans ?_ (RowOk.sub (by assumption) (by assumption)) | refine St.Sub.add ?_ ?_ _ | refine St.Sub.set ?_ ?_ ?_ _ | refine St.Sub.keep ?_ ?_ | refine St.WF.leave ?_ _ | refine St.WF.add ?_ _ | refine St.WF.set ?_ ?_ _ | refine St.WF.grow ?_ _ _ _ | refine St.WF.keep ?_ ?_ | (first | omega | (simp only [RowOk.lo, nx]; first | done | omega)))), ?_⟩; refine ⟨by omega, ?_, ?_⟩; all_goals (try (first | (simp (disch := first | decide | omega | (simp only [nx]; first | done | omega)) only [go_sem, w1, own0_succ, ht]; first | done | rfl) | rfl)))
  · have b1 : decide ((i : Int) < (l.length : Int)) = false := by simp; omega
    (simp (disch := first | decide | omega | (simp only [nx]; first | done | omega)) only [go_sem, q0, q3, q4, b1]; (repeat with_reducible refine aI ?_))
    refine ⟨?_, (by (repeat' first | assumption | exact St.Sub.refl _ | exact RowOk.sub (by assumption) (by assumption) | refine St.Sub.trans ?_ (RowOk.sub (by assumption) (by assumption)) | refine St.Sub.add ?_ ?_ _ | refine St.Sub.set ?_ ?_ ?_ _ | refine St.Sub.keep ?_ ?_ | refine St.WF.leave ?_ _ | refine St.WF.add ?_ _ | refine St.WF.set ?_ ?_ _ | refine St.WF.grow ?_ _ _ _ | refine St.WF.keep ?_ ?_ | (first | omega | (simp only [RowOk.lo, nx]; first | done | omega))))⟩
    rw [List.take_of_length_le (by omega)]
    simp only [D.frz, frz_Mks]
theorem hashes_d (own own2 : Own) (a b : List H32) (ha : a.length ≤ 1000000) : DPure Try.prog 28 [.sl own (a.map encH), .sl own2 (b.map encH)] (.v (.bool (decide (a = b)))) := by
  refine dpure_of_dwp mixed Try.func28 rfl (fun _ _ => by kernel_rfl) (rs := [.tmp 4]) rfl (by kernel_rfl) trivial (fun S hS => ?_)
  by_cases hl : a.length = b.length
  · have b0 : ((a.length : Int) != (b.length : Int)) = false := by simp [hl]
    (simp (disch := first | decide | omega | (simp only [nx]; first | done | omega)) only [go_sem, b0]; (repeat with_reducible refine aI ?_))
    (refine dloop_st (fun t => List.contains [4, 5, 11, 12, 13, 14, 15, 16, 17, 18, 19, 20, 21, 22, 23, 24, 25] t) (by kernel_rfl) ?_ (a.length) (fun i f => i ≤ a.length ∧ f 5 = .v (.int .i64 (i : Nat)) ∧ (∀ j, j < i → a[j]? = b[j]?)) ?_ ?_; (exact (by (repeat' first | assumption | refine St.WF.leave ?_ _ | refine St.WF.add ?_ _ | refine St.WF.set ?_ ?_ _ | refine St.WF.grow ?_ _ _ _ | refine St.WF.keep ?_ ?_ | (first | omega | (simp only [RowOk.lo, nx]; first | done | omega))))); (exact ⟨(by omega), (by (first | (simp (disch := first | decide | omega | (simp only [nx]; first | done | omega)) only [go_sem]; first | done | rfl) | rfl)), (fun j h => by omega)⟩); intro i g tn hn hT hg hI; obtain ⟨le, q5, hs⟩ := hI; have q0 := hg 0 rfl; have q1 := hg 1 rfl; simp (disch := first | decide | omega | (simp only [nx]; first | done | omega)) only [go_sem] at q0 q1; clear hg; have hn' := hn; try simp only [add_next, set_next, grow_next, leave_next, drop_next] at hn')
    by_cases hlt : i < a.length
    · have b1 : decide ((i : Int) < (a.length : Int)) = true := by simp; omega
      have w1 : IntKind.i64.wrap ((i : Int) + 1) = ((i + 1 : Nat) : Int) := IntWalk.i64_in _ ⟨by omega, by omega⟩
      have hlt' : i < b.length := by omega
      have la := a[i].2
      have lb := b[i].2
      (simp (disch := first | decide | omega | (simp only [nx]; first | done | omega)) only [go_sem, q0, q1, q5, b1]; (repeat with_reducible refine aI ?_))
      refine ddraw_mk 9 (by kernel_rfl) ?_
      (simp (disch := first | decide | omega | (simp only [nx]; first | done | omega)) only [go_sem, q0, q1, q5, hlt, hlt', la, lb]; (repeat with_reducible refine aI ?_))
      by_cases he : a[i] = b[i]
      · have b2 : (!decide (a[i] = b[i])) = false := by simp [he]
        (simp (disch := first | decide | omega | (simp only [nx]; first | done | omega)) only [go_sem, b2, q5, w1]; (repeat with_reducible refine aI ?_))
        (refine ⟨by omega, (by (repeat' first | assumption | exact St.Sub.refl _ | exact RowOk.sub (by assumption) (by assumption) | refine St.Sub.trans ?_ (RowOk.sub (by assumption) (by assumption)) | refine St.Sub.add ?_ ?_ _ | refine St.Sub.set ?_ ?_ ?_ _ | refine St.Sub.keep ?_ ?_ | refine St.WF.leave ?_ _ | refine St.WF.add ?_ _ | refine St.WF.set ?_ ?_ _ | refine St.WF.grow ?_ _ _ _ | refine St.WF.keep ?_ ?_ | (first | omega | (simp only [RowOk.lo, nx]; first | done | omega)))), ?_⟩; refine ⟨by omega, ?_, ?_⟩; all_goals (try (first | (simp (disch := first | decide | omega | (simp only [nx]; first | done | omega)) only [go_sem, w1]; first | done | rfl) | rfl)))
        intro j hj
        by_cases e : j = i
        · subst e; rw [List.getElem?_eq_getElem hlt, List.getElem?_eq_getElem hlt', he]
        · exact hs j (by omega)
      · have b2 : (!decide (a[i] = b[i])) = true := by simp [he]
        (simp (disch := first | decide | omega | (simp only [nx]; first | done | omega)) only [go_sem, b2]; (repeat with_reducible refine aI ?_))
        refine ⟨?_, (by (repeat' first | assumption | exact St.Sub.refl _ | exact RowOk.sub (by assumption) (by assumption) | refine St.Sub.trans ?_ (RowOk.sub (by assumption) (by assumption)) | refine St.Sub.add ?_ ?_ _ | refine St.Sub.set ?_ ?_ ?_ _ | refine St.Sub.keep ?_ ?_ | refine St.WF.leave ?_ _ | refine St.WF.add ?_ _ | refine St.WF.set ?_ ?_ _ | refine St.WF.grow ?_ _ _ _ | refine St.WF.keep ?_ ?_ | (first | omega | (simp only [RowOk.lo, nx]; first | done | omega))))⟩
        have : a ≠ b := fun h => he (by subst h; rfl)
        simp [D.frz, this]
    · have b1 : decide ((i : Int) < (a.length : Int)) = false := by simp; omega
      (simp (disch := first | decide | omega | (simp only [nx]; first | done | omega)) only [go_sem, q0, q5, b1]; (repeat with_reducible refine aI ?_))
      refine ⟨?_, (by (repeat' first | assumption | exact St.Sub.refl _ | exact RowOk.sub (by assumption) (by assumption) | refine St.Sub.trans ?_ (RowOk.sub (by assumption) (by assumption)) | refine St.Sub.add ?_ ?_ _ | refine St.Sub.set ?_ ?_ ?_ _ | refine St.Sub.keep ?_ ?_ | refine St.WF.leave ?_ _ | refine St.WF.add ?_ _ | refine St.WF.set ?_ ?_ _ | refine St.WF.grow ?_ _ _ _ | refine St.WF.keep ?_ ?_ | (first | omega | (simp only [RowOk.lo, nx]; first | done | omega))))⟩
      have : a = b := List.ext_getElem? fun j => by
        by_cases hj : j < i
        · exact hs j hj
        · rw [List.getElem?_eq_none (by omega), List.getElem?_eq_none (by omega)]
      simp [D.frz, this]
  · have b0 : ((a.length : Int) != (b.length : Int)) = true := by simp; omega
    (simp (disch := first | decide | omega | (simp only [nx]; first | done | omega)) only [go_sem, b0]; (repeat with_reducible refine aI ?_))
    refine ⟨?_, (by (repeat' first | assumption | exact St.Sub.refl _ | exact RowOk.sub (by assumption) (by assumption) | refine St.Sub.trans ?_ (RowOk.sub (by assumption) (by assumption)) | refine St.Sub.add ?_ ?_ _ | refine St.Sub.set ?_ ?_ ?_ _ | refine St.Sub.keep ?_ ?_ | refine St.WF.leave ?_ _ | refine St.WF.add ?_ _ | refine St.WF.set ?_ ?_ _ | refine St.WF.grow ?_ _ _ _ | refine St.WF.keep ?_ ?_ | (first | omega | (simp only [RowOk.lo, nx]; first | done | omega))))⟩
    have : a ≠ b := fun h => hl (by rw [h])
    simp [D.frz, this]
theorem rnames_d (own : Own) (l : List DMk) (hl : l.length ≤ 1000000) : DPure Try.prog 53 [.sl own (l.map encM)] (.sl .no ((l.map (·.2)).map encH)) := by
  refine dpure_of_dwp mixed Try.func53 rfl (fun _ _ => by kernel_rfl) (rs := [.tmp 2]) rfl (by kernel_rfl) (closed_Hs _) (fun S hS => ?_)
  (simp (disch := first | decide | omega | (simp only [nx]; first | done | omega)) only [go_sem]; (repeat with_reducible refine aI ?_))
  (refine dloop_row (fun t => List.contains [3, 4, 5, 6, 7, 8, 9, 10, 11, 12, 13, 14, 15, 16, 17, 18] t) (by kernel_rfl) ?_ (l.length) (44) (fun i own m f => i ≤ l.length ∧ f 4 = .v (.int .i64 (i : Nat)) ∧ f 3 = .sl own (((l.take i).map (·.2)).map encH) ∧ (own = .full ∨ m = i)) ?_ ?_; (exact (by (repeat' first | assumption | refine St.WF.leave ?_ _ | refine St.WF.add ?_ _ | refine St.WF.set ?_ ?_ _ | refine St.WF.grow ?_ _ _ _ | refine St.WF.keep ?_ ?_ | (first | omega | (simp only [RowOk.lo, nx]; first | done | omega))))); (exact ⟨(by omega), (by (first | (simp (disch := first | decide | omega | (simp only [nx]; first | done | omega)) only [go_sem]; first | done | rfl) | rfl)), (by (first | (simp (disch := first | decide | omega | (simp only [nx]; first | done | omega)) only [go_sem]; first | done | rfl) | rfl)), (.inl rfl)⟩); intro i g tn own m hn hr hT hg hI; obtain ⟨le, q4, q3, hm⟩ := hI; have q0 := hg 0 rfl; have q2 := hg 2 rfl; simp (disch := first | decide | omega | (simp only [nx]; first | done | omega)) only [go_sem] at q0 q2; clear hg; have hn' := hn; try simp only [add_next, set_next, grow_next, leave_next, drop_next] at hn')
  by_cases hlt : i < l.length
  · have b1 : decide ((i : Int) < (l.length : Int)) = true := by simp; omega
    have w1 : IntKind.i64.wrap ((i : Int) + 1) = ((i + 1 : Nat) : Int) := IntWalk.i64_in _ ⟨by omega, by omega⟩
    have hro := fun {e m k} => rowOf_lt hr (e := e) (m := m) (k := k)
    have la := l[i].2.2
    have d1 : ((mkCs l[i]).drop 1).take 32 = l[i].2.1.map bD := take_hash l[i].2
    (simp (disch := first | decide | omega | (simp only [nx]; first | done | omega)) only [go_sem, q0, q3, q4, b1, hlt, d1, la, hro]; (repeat with_reducible refine aI ?_))
    (refine dapp_grow (by (first | (simp (disch := first | decide | omega | (simp only [nx]; first | done | omega)) only [go_sem]; first | done | rfl) | rfl)) (by (first | (simp (disch := first | decide | omega | (simp only [nx]; first | done | omega)) only [go_sem]; first | done | rfl) | rfl)) (by (first | (simp (disch := first | decide | omega | (simp only [nx]; first | done | omega)) only [go_sem]; first | done | rfl) | rfl)) (fun d hd => ?_) (fun d hd => ?_) hr (by (repeat' first | assumption | exact St.Sub.refl _ | exact RowOk.sub (by assumption) (by assumption) | refine St.Sub.trans ?_ (RowOk.sub (by assumption) (by assumption)) | refine St.Sub.add ?_ ?_ _ | refine St.Sub.set ?_ ?_ ?_ _ | refine St.Sub.keep ?_ ?_ | refine St.WF.leave ?_ _ | refine St.WF.add ?_ _ | refine St.WF.set ?_ ?_ _ | refine St.WF.grow ?_ _ _ _ | refine St.WF.keep ?_ ?_ | (first | omega | (simp only [RowOk.lo, nx]; first | done | omega)))) ?_ ?_ ?_ ?_; (exact (by first | (simp (disch := first | decide | omega | (simp only [nx]; first | done | omega)) only [go_sem]; done) | (simp (disch := first | decide | omega | (simp only [nx]; first | done | omega)) only [go_sem]; exact (by obtain ⟨q, _, rfl⟩ := List.mem_map.1 hd; exact width_encH q)))); (exact (by first | (simp (disch := first | decide | omega | (simp only [nx]; first | done | omega)) only [go_sem]; done) | (simp (disch := first | decide | omega | (simp only [nx]; first | done | omega)) only [go_sem]; exact (by obtain rfl := List.mem_singleton.1 hd; exact width_encH _)))); (exact (by simp only [List.length_map, List.length_take, Nat.min_eq_left le]; exact hm)))
    · simp only [List.length_map, List.length_take, List.length_cons, List.length_nil]; omega
    · simp (disch := first | decide | omega | (simp only [nx]; first | done | omega)) only [go_sem]; simp only [List.length_take, List.length_map]; omega
    (simp (disch := first | decide | omega | (simp only [nx]; first | done | omega)) only [go_sem, q0, q3, q4, w1]; (repeat with_reducible refine aI ?_))
    (refine ⟨by omega, _, _, RowNext.grow (m := m) ?_ ?_ hr hn ?_ (St.Sub.refl _), ?_⟩; (exact (by (repeat' first | assumption | refine St.WF.leave ?_ _ | refine St.WF.add ?_ _ | refine St.WF.set ?_ ?_ _ | refine St.WF.grow ?_ _ _ _ | refine St.WF.keep ?_ ?_ | (first | omega | (simp only [RowOk.lo, nx]; first | done | omega))))); (exact (by (first | omega | (simp only [RowOk.lo, nx]; first | done | omega)))); (exact (by (repeat' first | assumption | exact St.Sub.refl _ | exact RowOk.sub (by assumption) (by assumption) | refine St.Sub.trans ?_ (RowOk.sub (by assumption) (by assumption)) | refine St.Sub.add ?_ ?_ _ | refine St.Sub.set ?_ ?_ ?_ _ | refine St.Sub.keep ?_ ?_ | refine St.WF.leave ?_ _ | refine St.WF.add ?_ _ | refine St.WF.set ?_ ?_ _ | refine St.WF.grow ?_ _ _ _ | refine St.WF.keep ?_ ?_ | (first | omega | (simp only [RowOk.lo, nx]; first | done | omega))))); refine ⟨by omega, ?_, ?_, ?_⟩; all_goals (try (first | (simp (disch := first | decide | omega | (simp only [nx]; first | done | omega)) only [go_sem, w1]; first | done | rfl) | rfl)))
    · rw [List.take_succ_eq_append_getElem hlt, List.map_append, List.map_append]; rfl
    · exact .inr (by simp only [List.length_take, List.length_map]; omega)
  · have b1 : decide ((i : Int) < (l.length : Int)) = false := by simp; omega
    (simp (disch := first | decide | omega | (simp only [nx]; first | done | omega)) only [go_sem, q0, q3, q4, b1]; (repeat with_reducible refine aI ?_))
    refine ⟨?_, (by (repeat' first | assumption | exact St.Sub.refl _ | exact RowOk.sub (by assumption) (by assumption) | refine St.Sub.trans ?_ (RowOk.sub (by assumption) (by assumption)) | refine St.Sub.add ?_ ?_ _ | refine St.Sub.set ?_ ?_ ?_ _ | refine St.Sub.keep ?_ ?_ | refine St.WF.leave ?_ _ | refine St.WF.add ?_ _ | refine St.WF.set ?_ ?_ _ | refine St.WF.grow ?_ _ _ _ | refine St.WF.keep ?_ ?_ | (first | omega | (simp only [RowOk.lo, nx]; first | done | omega))))⟩
    rw [List.take_of_length_le (by omega)]
    simp only [D.frz, frz_Hs]
end
end Go.Proofs.Ytonncfminojejaa

namespace Go.Proofs.Ytonncfminojejaa
open Go.RowKit
theorem elHs : elT Try.prog 23 = some 44 := by kernel_rfl
theorem szHs : szOf Try.prog 44 = 32 := by kernel_rfl
theorem byHs : bytesOf Try.prog 44 = 32 := by kernel_rfl
theorem zeHs : zeroT Try.prog 44 = true := by kernel_rfl
theorem zoHs : zeroOk Try.prog 44 = true := by kernel_rfl
theorem flatHs_len (l : List H32) : (flat (l.map encH)).length = l.length * 32 := by rw [dflat_length (wHs l), List.length_map]
theorem hs_at {l : List H32} {zs : List D} {i : Nat} (hi : i < l.length) : ((flat (l.map encH) ++ zs).drop (i * 32)).take 32 = (l[i].1.map bD) := by
  have hf := flatHs_len (l.take i)
  rw [List.length_take, Nat.min_eq_left (by omega)] at hf
  have e : l = l.take i ++ l[i] :: l.drop (i + 1) := by rw [← List.drop_eq_getElem_cons hi, List.take_append_drop]
  have e2 : flat (l.map encH) = flat ((l.take i).map encH) ++ ((l[i].1.map bD) ++ flat ((l.drop (i + 1)).map encH)) := by
    conv => lhs; rw [e]
    rw [List.map_append, List.map_cons, flat_append, flat_cons, cells_encH]
  rw [e2, List.append_assoc, List.drop_append_of_le_length (by omega), List.drop_of_length_le (by omega), List.nil_append, List.append_assoc, List.take_append_of_le_length (by rw [len_encH]; omega), take_hash]
structure OwnH (T : St) (k c : Nat) (zs : List D) (l : List H32) : Prop where
  ob : T.ob k = some (ownOb 44 (l.map encH) zs c)
  ln : (flat (l.map encH) ++ zs).length = c * 32
  lt : k < T.next
theorem OwnH.le {T : St} {k c : Nat} {zs : List D} {l : List H32} (h : OwnH T k c zs l) : l.length ≤ c := by
  have := ownOb_len (wHs l) (by omega) h.ln
  rwa [List.length_map] at this
theorem OwnH.pos {T : St} {k c : Nat} {zs : List D} {l : List H32} (h : OwnH T k c zs l) (hl : 0 < l.length) : T.ob k = some (.box 44 (flat (l.map encH) ++ zs)) := by
  have h1 := h.le
  have h2 := h.ob
  rwa [ownOb_box (by omega)] at h2
theorem thawH {T : St} {k c : Nat} {zs : List D} {l : List H32} (h : OwnH T k c zs l) {d d1 : D} (hd : d.thaw k (l.map encH) = d1) : Thaw Try.prog T d (T.drop k) d1 := thaw_own h.ob (by rw [List.length_map]; exact h.le) (by rw [szHs]; omega) (by rw [szHs]; exact wHs l) hd
theorem dpure_ownH {g : FuncId} {args : List D} {l : List H32} (h : ∀ S : St, S.WF → DCalls Try.prog g args S fun d T => ∃ k c zs, d = .win k 0 l.length c ∧ S.next ≤ k ∧ OwnH T k c zs l ∧ S.Sub T) : DPure Try.prog g args (.sl .no (l.map encH)) := fun S base η w vs hM hr =>
  calls_fin ((h S hM.fresh).mono fun d T ⟨k, c, zs, e, hk, ho, hs⟩ => ⟨T.drop k, .sl .no (l.map encH), by
    subst e
    refine thawH ho ?_
    simp only [D.thaw, List.length_map, Nat.beq_refl, Bool.and_self, cond_true], fin_same hM.fresh (closed_Hs l) ⟨hs.next, fun j o hj => by
    have := St.WF.lt (S := S) hM.fresh hj
    simp only [St.drop]
    rw [if_neg (by omega)]
    exact hs.ob j o hj⟩⟩) base η w vs hM hr
def curH (l : List H32) (q : Nat) : List H32 := packH (l.take q) ++ l.drop (packH (l.take q)).length
theorem packH_takeLen (l : List H32) (q : Nat) : (packH (l.take q)).length ≤ q ∧ (packH (l.take q)).length ≤ l.length := by
  have h := packH_len (l.take q)
  rw [List.length_take] at h
  omega
theorem curH_len (l : List H32) (q : Nat) : (curH l q).length = l.length := by
  have := packH_takeLen l q
  rw [curH, List.length_append, List.length_drop]
  omega
theorem curH_at (l : List H32) (q i : Nat) (h : (packH (l.take q)).length ≤ i) (hi : i < l.length) : (curH l q)[i]'(by rw [curH_len]; exact hi) = l[i] := by
  unfold curH
  rw [List.getElem_append_right h, List.getElem_drop]
  congr 1
  omega
theorem curH_none {l : List H32} {q : Nat} (h : packH (l.take q) = l.take q) : curH l q = l := by
  unfold curH
  rw [h, List.length_take]
  rcases Nat.lt_or_ge q l.length with h1 | h1
  · rw [Nat.min_eq_left (by omega), List.take_append_drop]
  · rw [List.take_of_length_le h1, List.drop_of_length_le (by omega), List.append_nil]
theorem curH_same {l : List H32} {i : Nat} (h : i + 1 < l.length) (he : l[i] = l[i + 1]) : curH l (i + 2) = curH l (i + 1) := by
  unfold curH
  rw [packH_take l i h, if_pos he]
theorem curH_new {l : List H32} {i : Nat} (h : i + 1 < l.length) (he : l[i] ≠ l[i + 1]) (hp : (packH (l.take (i + 1))).length < l.length) : curH l (i + 2) = (curH l (i + 1)).set (packH (l.take (i + 1))).length l[i + 1] := by
  unfold curH
  rw [packH_take l i h, if_neg he, List.set_append_right _ _ (Nat.le_refl _), Nat.sub_self, List.drop_eq_getElem_cons hp, List.set_cons_zero, List.length_append, List.append_assoc]
  rfl
section
set_option maxRecDepth 200000
set_option maxHeartbeats 4000000
theorem compactH_w {S : St} {k c : Nat} {zs : List D} (l : List H32) (ho : OwnH S k c zs l) (hlen : l.length ≤ 1000000) :
    DCalls Try.prog 51 [.win k 0 l.length c] S (fun d T => ∃ zs', d = .win k 0 (packH l).length c ∧ OwnH T k c zs' (packH l) ∧ S.next ≤ T.next ∧ ∀ j o, j ≠ k → S.ob j = some o → T.ob j = some o) := by
  have hle := ho.le
  have hlt := ho.lt
  refine dcalls_inline mixed Try.func51 rfl (fun _ _ => by kernel_rfl) (rs := [.tmp 2]) rfl (by kernel_rfl) (fun hS => ?_)
  by_cases h2 : l.length < 2
  · have b1 : decide ((l.length : Int) < 2) = true := by simp; omega
    have hp : packH l = l := by
      match l, h2 with
      | [], _ => rfl
      | [x], _ => rfl
    (simp (disch := first | decide | omega | (simp only [nx]; first | done | omega)) only [go_sem, b1]; (repeat with_reducible refine aI ?_))
    rw [hp]
    exact ⟨zs, rfl, ho, Nat.le_refl _, fun _ _ _ h => h⟩
  have b1 : decide ((l.length : Int) < 2) = false := by simp; omega
  have hk := ho.pos (by omega)
  (simp (disch := first | decide | omega | (simp only [nx]; first | done | omega)) only [go_sem, b1]; (repeat with_reducible refine aI ?_))
  (refine dloop_st (fun t => List.contains [2, 3, 4, 5, 10, 11, 12, 13, 14, 15, 16, 17, 18, 19, 20, 21, 22, 23, 24, 25, 26, 27, 28, 29, 30, 31, 32, 33, 34, 35, 36, 37, 38, 39, 40, 41, 42, 43, 44, 45, 46, 47, 48, 49, 50, 51, 52, 53, 54, 55, 56, 57, 58, 59] t) (by kernel_rfl) ?_ (l.length) (fun i f => i ≤ l.length ∧ f 3 = .v (.int .i64 ((i + 1 : Nat))) ∧ f 2 = .sl .full [] ∧ (packH (l.take (i + 1)) = l.take (i + 1))) ?_ ?_; (exact (by (repeat' first | assumption | refine St.WF.leave ?_ _ | refine St.WF.add ?_ _ | refine St.WF.set ?_ ?_ _ | refine St.WF.grow ?_ _ _ _ | refine St.WF.keep ?_ ?_ | (first | omega | (simp only [RowOk.lo, nx]; first | done | omega))))); (exact ⟨(by omega), (by (first | (simp (disch := first | decide | omega | (simp only [nx]; first | done | omega)) only [go_sem]; first | done | rfl) | rfl)), (by (first | (simp (disch := first | decide | omega | (simp only [nx]; first | done | omega)) only [go_sem]; first | done | rfl) | rfl)), (by rw [List.take_succ_eq_append_getElem (by omega)]; rfl)⟩); intro i g tn hn hT hg hI; obtain ⟨le, q3, q2, hp⟩ := hI; have q0 := hg 0 rfl; simp (disch := first | decide | omega | (simp only [nx]; first | done | omega)) only [go_sem] at q0; clear hg; have hn' := hn; try simp only [add_next, set_next, grow_next, leave_next, drop_next] at hn')
  by_cases hlt1 : i + 1 < l.length
  · have b2 : decide (((i + 1 : Nat) : Int) < (l.length : Int)) = true := by simp; omega
    have w0 : IntKind.i64.wrap (((i + 1 : Nat) : Int) - 1) = ((i : Nat) : Int) := by rw [IntKind.wrap_i64]; omega
    have w1 : IntKind.i64.wrap (((i + 1 : Nat) : Int) + 1) = ((i + 1 + 1 : Nat) : Int) := IntWalk.i64_in _ ⟨by omega, by omega⟩
    have hcs := ho.ln
    have m1 := hs_at (zs := zs) hlt1
    have m2 := hs_at (zs := zs) (by omega : i < l.length)
    by_cases he : l[i + 1] = l[i]
    · have b3 : decide (l[i + 1] = l[i]) = true := decide_eq_true he
      have hq : packH (l.take (i + 2)) = l.take (i + 1) := by rw [packH_take l i hlt1, if_pos he.symm, hp]
      (simp (disch := first | decide | omega | (simp only [nx]; first | done | omega)) only [go_sem, q0, q3, q2, b2]; (repeat with_reducible refine aI ?_))
      refine ddraw_mk 10 (by kernel_rfl) ?_
      (simp (disch := first | decide | omega | (simp only [nx]; first | done | omega)) only [go_sem, q0, q3, q2, b2, w0, hk, Nat.zero_add, hcs, m1, m2, b3]; (repeat with_reducible refine aI ?_))
      rw [winOff_lt (by omega)]
      have hq0 : (packH (l.take (i + 2 + 0))).length = i + 1 := by rw [Nat.add_zero, hq, List.length_take]; omega
      have hk : S.ob k = some (.box 44 (flat ((curH l (i + 2 + 0)).map encH) ++ zs)) := by rw [Nat.add_zero, curH_same hlt1 he.symm, curH_none hp]; exact hk
      (refine dloop_var (fun t => List.contains [3, 5, 29, 30, 31, 32, 33, 34, 35, 36, 37, 38, 39, 40, 41, 42, 43, 44, 45, 46, 47, 48, 49, 50, 51, 52, 53] t) (by kernel_rfl) ?_ (l.length - (i + 2)) (k) (fun ij => .box 44 (flat ((curH l (i + 2 + ij)).map encH) ++ zs)) ?_ (fun ij f => ij ≤ l.length - (i + 2) ∧ f 3 = .v (.int .i64 (((packH (l.take (i + 2 + ij))).length : Nat))) ∧ f 5 = .v (.int .i64 ((ij + 1 : Nat))) ∧ ((packH (l.take (i + 2 + ij))).length ≤ i + 1 + ij)) ?_ ?_; (exact (by (repeat' first | assumption | refine St.WF.leave ?_ _ | refine St.WF.add ?_ _ | refine St.WF.set ?_ ?_ _ | refine St.WF.grow ?_ _ _ _ | refine St.WF.keep ?_ ?_ | (first | omega | (simp only [RowOk.lo, nx]; first | done | omega))))); (exact (by (first | (first | (simp (disch := first | decide | omega | (simp only [nx]; first | done | omega)) only [go_sem]; first | done | rfl) | rfl) | (first | (simp (disch := first | decide | omega | (simp only [nx]; first | done | omega)) only [go_sem, q3, hq0, hk]; first | done | rfl) | rfl)))); (exact ⟨(by omega), (by (first | (simp (disch := first | decide | omega | (simp only [nx]; first | done | omega)) only [go_sem, q3, hq0, hk]; first | done | rfl) | rfl)), (by (first | (simp (disch := first | decide | omega | (simp only [nx]; first | done | omega)) only [go_sem, q3, hq0, hk]; first | done | rfl) | rfl)), (by omega)⟩); intro ij gj tnj hnj hTj hgj hIj; obtain ⟨lej, q3j, q5j, hpj⟩ := hIj; have q0j := hgj 0 rfl; have q2j := hgj 2 rfl; have q4j := hgj 4 rfl; simp (disch := first | decide | omega | (simp only [nx]; first | done | omega)) only [go_sem, q3, hq0, hk] at q0j q2j q4j; clear hgj; have hnj' := hnj; try simp only [add_next, set_next, grow_next, leave_next, drop_next] at hnj')
      by_cases hlt2 : i + 2 + ij < l.length
      · have b4 : decide (((ij + 1 : Nat) : Int) < ((l.length - (i + 1) : Nat) : Int)) = true := by simp; omega
        have w2 : IntKind.i64.wrap (((ij + 1 : Nat) : Int) - 1) = ((ij : Nat) : Int) := by rw [IntKind.wrap_i64]; omega
        have w3 : IntKind.i64.wrap (((ij + 1 : Nat) : Int) + 1) = ((ij + 1 + 1 : Nat) : Int) := IntWalk.i64_in _ ⟨by omega, by omega⟩
        have hcl := curH_len l (i + 2 + ij)
        have hcs2 : (flat ((curH l (i + 2 + ij)).map encH) ++ zs).length = c * 32 := by
          have := ho.ln
          simp only [List.length_append, flatHs_len, hcl] at this ⊢
          exact this
        have m3 := hs_at (l := curH l (i + 2 + ij)) (zs := zs) (by omega : i + 2 + ij < _)
        have m4 := hs_at (l := curH l (i + 2 + ij)) (zs := zs) (by omega : i + 1 + ij < _)
        rw [curH_at l _ _ (by omega) (by omega)] at m3 m4
        have x3 : (i + 1) * 32 + (ij + 1) * 32 = (i + 2 + ij) * 32 := by omega
        have x4 : (i + 1) * 32 + ij * 32 = (i + 1 + ij) * 32 := by omega
        (simp (disch := first | decide | omega | (simp only [nx]; first | done | omega)) only [go_sem, q0j, q3j, q4j, q5j, b4]; (repeat with_reducible refine aI ?_))
        refine ddraw_mk 10 (by kernel_rfl) ?_
        (simp (disch := first | decide | omega | (simp only [nx]; first | done | omega)) only [go_sem, q0j, q3j, q4j, q5j, b4, w2, Nat.zero_add, hcs2, x3, x4, m3, m4]; (repeat with_reducible refine aI ?_))
        have y2 : i + 2 + (ij + 1) = i + 1 + ij + 2 := by omega
        have y1 : i + 2 + ij = i + 1 + ij + 1 := by omega
        have hlt3 : i + 1 + ij + 1 < l.length := by omega
        have hpP : (packH (l.take (i + 2 + ij))).length < l.length := by omega
        by_cases he2 : l[i + 2 + ij] = l[i + 1 + ij]
        · have b5 : (!decide (l[i + 2 + ij] = l[i + 1 + ij])) = false := by simp [he2]
          (simp (disch := first | decide | omega | (simp only [nx]; first | done | omega)) only [go_sem, b5, q5j, w3]; (repeat with_reducible refine aI ?_))
          have he3 : l[i + 1 + ij] = l[i + 1 + ij + 1] := by rw [← he2]; congr 1
          have e1 : packH (l.take (i + 2 + (ij + 1))) = packH (l.take (i + 2 + ij)) := by rw [y2, y1, packH_take l _ hlt3, if_pos he3]
          have e2 : curH l (i + 2 + (ij + 1)) = curH l (i + 2 + ij) := by unfold curH; rw [e1]
          refine ⟨by omega, ?_, by omega, ?_, ?_, by rw [e1]; omega⟩
          · show (St.set _ k (Ob.box _ (flat ((curH l (i + 2 + (ij + 1))).map encH) ++ zs))).Sub _
            rw [e2]
            exact ⟨hnj, fun _ _ h => h⟩
          · rw [e1]; (first | (simp (disch := first | decide | omega | (simp only [nx]; first | done | omega)) only [go_sem, q3j]; first | done | rfl) | rfl)
          · (first | (simp (disch := first | decide | omega | (simp only [nx]; first | done | omega)) only [go_sem, w3]; first | done | rfl) | rfl)
        · have b5 : (!decide (l[i + 2 + ij] = l[i + 1 + ij])) = true := by simp [he2]
          have w4 : IntKind.i64.wrap (((packH (l.take (i + 2 + ij))).length : Int) + 1) = (((packH (l.take (i + 2 + ij))).length + 1 : Nat) : Int) := IntWalk.i64_in _ ⟨by omega, by omega⟩
          have lw := l[i + 2 + ij].2
          (simp (disch := first | decide | omega | (simp only [nx]; first | done | omega)) only [go_sem, b5, q0, q0j, q3j, q4j, q5j, Nat.zero_add, hcs2, x3, m3, w3, w4, hcl, lw]; (repeat with_reducible refine aI ?_))
          have he3 : ¬ l[i + 1 + ij] = l[i + 1 + ij + 1] := fun h => he2 (by rw [h]; congr 1)
          have e1 : (packH (l.take (i + 2 + (ij + 1)))).length = (packH (l.take (i + 2 + ij))).length + 1 := by rw [y2, y1, packH_take l _ hlt3, if_neg he3, List.length_append]; rfl
          have e2 : curH l (i + 2 + (ij + 1)) = (curH l (i + 2 + ij)).set (packH (l.take (i + 2 + ij))).length l[i + 2 + ij] := by
            have := curH_new hlt3 he3 (by rw [← y1]; exact hpP)
            have e6 : l[i + 1 + ij + 1] = l[i + 2 + ij] := by congr 1; omega
            rw [e6, ← y1, ← y2] at this
            exact this
          refine ⟨by omega, ?_, by omega, ?_, ?_, by omega⟩
          · show (St.set _ k (Ob.box _ (flat ((curH l (i + 2 + (ij + 1))).map encH) ++ zs))).Sub _
            have key := splice_flat' (es := (curH l (i + 2 + ij)).map encH) (zs := zs) (z := 32) (i := (packH (l.take (i + 2 + ij))).length) (y := encH l[i + 2 + ij]) (by rw [List.length_map]; omega) (wHs _) (width_encH _)
            rw [cells_encH] at key
            rw [key, e2, List.map_set]
            exact St.Sub.upd hnj rfl (St.Sub.refl _)
          · rw [e1]; (first | (simp (disch := first | decide | omega | (simp only [nx]; first | done | omega)) only [go_sem, q3j]; first | done | rfl) | rfl)
          · (first | (simp (disch := first | decide | omega | (simp only [nx]; first | done | omega)) only [go_sem, w3]; first | done | rfl) | rfl)
      · have b4 : decide (((ij + 1 : Nat) : Int) < ((l.length - (i + 1) : Nat) : Int)) = false := by simp; omega
        (simp (disch := first | decide | omega | (simp only [nx]; first | done | omega)) only [go_sem, q0, q0j, q3j, q4j, q5j, b4]; (repeat with_reducible refine aI ?_))
        have hie : i + 2 + ij = l.length := by omega
        have hpe : packH (l.take (i + 2 + ij)) = packH l := by rw [hie, List.take_length]
        have hcl := curH_len l (i + 2 + ij)
        have hcs2 : (flat ((curH l (i + 2 + ij)).map encH) ++ zs).length = c * 32 := by
          have := ho.ln
          simp only [List.length_append, flatHs_len, hcl] at this ⊢
          exact this
        have hpl := packH_len l
        have hmul : (l.length - (packH l).length) * 32 + (packH l).length * 32 = l.length * 32 := by rw [← Nat.add_mul]; congr 1; omega
        have hcc := hcs2
        rw [List.length_append, flatHs_len, hcl] at hcc
        rw [hpe] at hpj ⊢
        rw [winOff_lt (by omega), Nat.zero_add]
        refine dclear_win elHs zeHs zoHs (bt := 44) (cs := flat ((curH l (i + 2 + ij)).map encH) ++ zs) (by (first | (simp (disch := first | decide | omega | (simp only [nx]; first | done | omega)) only [go_sem]; first | done | rfl) | rfl)) (by rw [szHs, hcs2]; omega) fun z2 hz2 => ?_
        rw [szHs] at hz2
        have e5 : flat ((curH l (i + 2 + ij)).map encH) = flat ((packH l).map encH) ++ flat ((l.drop (packH l).length).map encH) := by rw [curH, hpe, List.map_append, flat_append]
        rw [e5, List.append_assoc, splice_at (by rw [flatHs_len])]
        (simp (disch := first | decide | omega | (simp only [nx]; first | done | omega)) only [go_sem, q0, q0j, q3j, hpe, winOff_zero]; (repeat with_reducible refine aI ?_))
        refine ⟨z2 ++ List.drop z2.length (flat (List.map encH (List.drop (packH l).length l)) ++ zs), ⟨?_, ?_, ?_⟩, by omega, ?_⟩
        · rw [ownOb_box (by omega)]
          simp only [St.set, if_true, List.append_assoc]
        · have h3 := flatHs_len (l.drop (packH l).length)
          rw [List.length_drop] at h3
          simp only [List.length_append, List.length_drop, flatHs_len] at hcc ⊢
          omega
        · show k < tnj
          omega
        · intro j o hj h
          simp only [St.set, if_neg hj]
          exact h
    · have b3 : decide (l[i + 1] = l[i]) = false := decide_eq_false he
      (simp (disch := first | decide | omega | (simp only [nx]; first | done | omega)) only [go_sem, q0, q3, q2, b2]; (repeat with_reducible refine aI ?_))
      refine ddraw_mk 10 (by kernel_rfl) ?_
      (simp (disch := first | decide | omega | (simp only [nx]; first | done | omega)) only [go_sem, q0, q3, q2, b2, w0, hk, Nat.zero_add, hcs, m1, m2, b3, w1]; (repeat with_reducible refine aI ?_))
      (refine ⟨by omega, (by (repeat' first | assumption | exact St.Sub.refl _ | exact RowOk.sub (by assumption) (by assumption) | refine St.Sub.trans ?_ (RowOk.sub (by assumption) (by assumption)) | refine St.Sub.add ?_ ?_ _ | refine St.Sub.set ?_ ?_ ?_ _ | refine St.Sub.keep ?_ ?_ | refine St.WF.leave ?_ _ | refine St.WF.add ?_ _ | refine St.WF.set ?_ ?_ _ | refine St.WF.grow ?_ _ _ _ | refine St.WF.keep ?_ ?_ | (first | omega | (simp only [RowOk.lo, nx]; first | done | omega)))), ?_⟩; refine ⟨by omega, ?_, ?_, ?_⟩; all_goals (try (first | (simp (disch := first | decide | omega | (simp only [nx]; first | done | omega)) only [go_sem, w1, q2]; first | done | rfl) | rfl)))
      rw [packH_take l i hlt1, if_neg (fun h => he h.symm), hp, ← List.take_succ_eq_append_getElem hlt1]
  · have b2 : decide (((i + 1 : Nat) : Int) < (l.length : Int)) = false := by simp; omega
    (simp (disch := first | decide | omega | (simp only [nx]; first | done | omega)) only [go_sem, q0, q3, q2, b2]; (repeat with_reducible refine aI ?_))
    have hp' : packH l = l := by
      have h3 : l.length ≤ i + 1 := by omega
      rw [List.take_of_length_le h3] at hp
      exact hp
    rw [hp']
    exact ⟨zs, rfl, ⟨ho.ob, ho.ln, by show k < tn; omega⟩, by omega, fun _ _ _ h => h⟩
end
end Go.Proofs.Ytonncfminojejaa

namespace Go.Proofs.Ytonncfminojejaa
open Go.RowKit Go.Sort Go.Shelf
def sortHsL_ren : Go.Shelf.Ren := ⟨fun | 6 => 48 | 15 => 64 | 14 => 63 | 28 => 78 | 29 => 79 | 20 => 70 | 21 => 71 | 22 => 72 | 23 => 73 | 24 => 74 | 25 => 75 | 26 => 76 | 27 => 77 | 46 => 82 | 47 => 83 | 48 => 84 | 49 => 85 | 50 => 86 | 57 => 88 | n => n, fun | 22 => 23 | 24 => 44 | 25 => 93 | 3 => 3 | 39 => 90 | 0 => 0 | 53 => 125 | 55 => 58 | 4 => 4 | 46 => 118 | 45 => 117 | 50 => 122 | 5 => 5 | 9 => 9 | 66 => 129 | 70 => 133 | 76 => 135 | 77 => 136 | n => n, fun | n => n⟩
theorem sortHsL : Go.Proofs.SlLaysF0.n6 Try.prog sortHsL_ren := {
  mixed := by kernel_rfl
  f6 := ⟨Try.f48.name, by decide, Try.func48.trans (congrArg some (by kernel_rfl))⟩
  f14 := ⟨Try.f63.name, by decide, Try.func63.trans (congrArg some (by kernel_rfl))⟩
  f15 := Try.func64.trans (congrArg some (by kernel_rfl))
  f20 := ⟨Try.f70.name, by decide, Try.func70.trans (congrArg some (by kernel_rfl))⟩
  f21 := ⟨Try.f71.name, by decide, Try.func71.trans (congrArg some (by kernel_rfl))⟩
  f22 := ⟨Try.f72.name, by decide, Try.func72.trans (congrArg some (by kernel_rfl))⟩
  f23 := ⟨Try.f73.name, by decide, Try.func73.trans (congrArg some (by kernel_rfl))⟩
  f24 := ⟨Try.f74.name, by decide, Try.func74.trans (congrArg some (by kernel_rfl))⟩
  f25 := ⟨Try.f75.name, by decide, Try.func75.trans (congrArg some (by kernel_rfl))⟩
  f26 := ⟨Try.f76.name, by decide, Try.func76.trans (congrArg some (by kernel_rfl))⟩
  f27 := ⟨Try.f77.name, by decide, Try.func77.trans (congrArg some (by kernel_rfl))⟩
  f28 := Try.func78.trans (congrArg some (by kernel_rfl))
  f29 := Try.func79.trans (congrArg some (by kernel_rfl))
  f46 := ⟨Try.f82.name, by decide, Try.func82.trans (congrArg some (by kernel_rfl))⟩
  f47 := Try.func83.trans (congrArg some (by kernel_rfl))
  f48 := Try.func84.trans (congrArg some (by kernel_rfl))
  f49 := ⟨Try.f85.name, by decide, Try.func85.trans (congrArg some (by kernel_rfl))⟩
  f50 := ⟨Try.f86.name, by decide, Try.func86.trans (congrArg some (by kernel_rfl))⟩
  f57 := ⟨Try.f88.name, by decide, Try.func88.trans (congrArg some (by kernel_rfl))⟩
  t0 := Try.underlying0
  a0 := Try.isAgg0
  z0 := Try.sizeOf0
  v0 := Try.zeroValue0
  t3 := Try.underlying3
  a3 := Try.isAgg3
  z3 := Try.sizeOf3
  v3 := Try.zeroValue3
  t4 := Try.underlying4
  a4 := Try.isAgg4
  z4 := Try.sizeOf4
  v4 := Try.zeroValue4
  t5 := Try.underlying5
  a5 := Try.isAgg5
  z5 := Try.sizeOf5
  v5 := Try.zeroValue5
  t9 := Try.underlying9
  a9 := Try.isAgg9
  z9 := Try.sizeOf9
  v9 := Try.zeroValue9
  t22 := Try.underlying23
  a22 := Try.isAgg23
  z22 := Try.sizeOf23
  v22 := Try.zeroValue23
  t25 := Try.underlying93
  a25 := Try.isAgg93
  z25 := Try.sizeOf93
  v25 := Try.zeroValue93
  t39 := Try.underlying90
  a39 := Try.isAgg90
  z39 := Try.sizeOf90
  v39 := Try.zeroValue90
  t45 := Try.underlying117
  a45 := Try.isAgg117
  z45 := Try.sizeOf117
  v45 := Try.zeroValue117
  t46 := Try.underlying118
  a46 := Try.isAgg118
  z46 := Try.sizeOf118
  v46 := Try.zeroValue118
  t50 := Try.underlying122
  a50 := Try.isAgg122
  z50 := Try.sizeOf122
  v50 := Try.zeroValue122
  t53 := Try.underlying125
  a53 := Try.isAgg125
  z53 := Try.sizeOf125
  v53 := Try.zeroValue125
  t55 := Try.underlying58
  a55 := Try.isAgg58
  z55 := Try.sizeOf58
  v55 := Try.zeroValue58
  t66 := Try.underlying129
  a66 := Try.isAgg129
  z66 := Try.sizeOf129
  v66 := Try.zeroValue129
  t70 := Try.underlying133
  a70 := Try.isAgg133
  z70 := Try.sizeOf133
  v70 := Try.zeroValue133
  t76 := Try.underlying135
  a76 := Try.isAgg135
  z76 := Try.sizeOf135
  v76 := Try.zeroValue135
  t77 := Try.underlying136
  a77 := Try.isAgg136
  z77 := Try.sizeOf136
  v77 := Try.zeroValue136 }
instance : Inhabited H32 := ⟨⟨List.replicate 32 0, rfl⟩⟩
theorem isAgg_hash : ∀ w, (isAgg 44).run Try.prog w = .ok true w := fun w => by kernel_rfl
theorem sizeOf_hash : ∀ w, (Go.sizeOf 44).run Try.prog w = .ok 32 w := fun w => by kernel_rfl
def hsVs (h : H32) : List Value := h.1.map bV
theorem hsVs_len (h : H32) : (hsVs h).length = 32 := by simp [hsVs, h.2]
theorem hsVs_one (h : H32) : ∀ v ∈ hsVs h, v.oneCell' = true := fun v hv => by
  obtain ⟨b, _, rfl⟩ := List.mem_map.1 hv
  rfl
theorem encH_hv (h : H32) : encH h = .agg ((hsVs h).map D.v) := by
  simp only [encH, hsVs, List.map_map]
  rfl
section
set_option maxRecDepth 200000
set_option maxHeartbeats 4000000
theorem sortCmp_d (a b : H32) : DPure Try.prog 49 [encH a, encH b] (.v (.int .i64 (cmpH a b))) := by
  refine dpure_of_dwp mixed Try.func49 rfl (fun _ _ => by kernel_rfl) (rs := [.tmp 4]) rfl (by kernel_rfl) trivial (fun S hS => ?_)
  (simp (disch := first | decide | omega | (simp only [nx]; first | done | omega)) only [go_sem]; (repeat with_reducible refine aI ?_))
  refine ddraw_mk 4 (by kernel_rfl) ?_
  (simp (disch := first | decide | omega | (simp only [nx]; first | done | omega)) only [go_sem]; (repeat with_reducible refine aI ?_))
  refine dqgo_at (cmpH_st a b (winB_hash (t := 44) a ?_) (winB_hash (t := 44) b ?_)) ?_
  · (first | (simp (disch := first | decide | omega | (simp only [nx]; first | done | omega)) only [go_sem]; first | done | rfl) | rfl)
  · (first | (simp (disch := first | decide | omega | (simp only [nx]; first | done | omega)) only [go_sem]; first | done | rfl) | rfl)
  (simp (disch := first | decide | omega | (simp only [nx]; first | done | omega)) only [go_sem]; (repeat with_reducible refine aI ?_))
  refine ⟨?_, (by (repeat' first | assumption | exact St.Sub.refl _ | exact RowOk.sub (by assumption) (by assumption) | refine St.Sub.trans ?_ (RowOk.sub (by assumption) (by assumption)) | refine St.Sub.add ?_ ?_ _ | refine St.Sub.set ?_ ?_ ?_ _ | refine St.Sub.keep ?_ ?_ | refine St.WF.leave ?_ _ | refine St.WF.add ?_ _ | refine St.WF.set ?_ ?_ _ | refine St.WF.grow ?_ _ _ _ | refine St.WF.keep ?_ ?_ | (first | omega | (simp only [RowOk.lo, nx]; first | done | omega))))⟩
  rfl
variable {S : St}
theorem sort0H_d (k c : Nat) : DPure Try.prog 48 [.win k 0 0 c, .fn (.func 49) [] []] (.tup []) := by
  refine dpure_of_dwp mixed Try.func48 rfl (fun _ _ => by kernel_rfl) (rs := []) rfl (by kernel_rfl) trivial (fun S hS => ?_)
  have hcv : pureRun Try.prog (convert 3 90 (.int .i64 0)) = some (.int .u64 0) := by kernel_rfl
  (simp (disch := first | decide | omega | (simp only [nx]; first | done | omega)) only [go_sem, hcv]; (repeat with_reducible refine aI ?_))
  refine DCalls.of_pure (bitsLen_d sortHsL (by intro _ _; kernel_rfl) 0 (by omega)) ?_
  (simp (disch := first | decide | omega | (simp only [nx]; first | done | omega)) only [go_sem]; (repeat with_reducible refine aI ?_))
  refine dcalls_inline mixed Try.func63 rfl (fun _ _ => by kernel_rfl) (rs := []) rfl (by kernel_rfl) (fun hS => ?_)
  (simp (disch := first | decide | omega | (simp only [nx]; first | done | omega)) only [go_sem]; (repeat with_reducible refine aI ?_))
  refine dloop_fuel 1 (by (repeat' first | assumption | refine St.WF.leave ?_ _ | refine St.WF.add ?_ _ | refine St.WF.set ?_ ?_ _ | refine St.WF.grow ?_ _ _ _ | refine St.WF.keep ?_ ?_ | (first | omega | (simp only [RowOk.lo, nx]; first | done | omega)))) (by kernel_rfl) ?_
  rw [loopN_eq]
  have b1 : decide (IntKind.i64.wrap (0 - 0) ≤ 12) = true := by decide
  have b2 : decide ((1 : Int) < 0) = false := by decide
  (simp (disch := first | decide | omega | (simp only [nx]; first | done | omega)) only [go_sem, b1]; (repeat with_reducible refine aI ?_))
  refine dcalls_inline mixed Try.func70 rfl (fun _ _ => by kernel_rfl) (rs := []) rfl (by kernel_rfl) (fun hS => ?_)
  have b3 : IntKind.i64.wrap (0 + 1) = 1 := by decide
  (simp (disch := first | decide | omega | (simp only [nx]; first | done | omega)) only [go_sem, b3]; (repeat with_reducible refine aI ?_))
  refine dloop_fuel 1 (by (repeat' first | assumption | refine St.WF.leave ?_ _ | refine St.WF.add ?_ _ | refine St.WF.set ?_ ?_ _ | refine St.WF.grow ?_ _ _ _ | refine St.WF.keep ?_ ?_ | (first | omega | (simp only [RowOk.lo, nx]; first | done | omega)))) (by kernel_rfl) ?_
  rw [loopN_eq]
  (simp (disch := first | decide | omega | (simp only [nx]; first | done | omega)) only [go_sem, b2]; (repeat with_reducible refine aI ?_))
  refine ⟨?_, (by (repeat' first | assumption | exact St.Sub.refl _ | exact RowOk.sub (by assumption) (by assumption) | refine St.Sub.trans ?_ (RowOk.sub (by assumption) (by assumption)) | refine St.Sub.add ?_ ?_ _ | refine St.Sub.set ?_ ?_ ?_ _ | refine St.Sub.keep ?_ ?_ | refine St.WF.leave ?_ _ | refine St.WF.add ?_ _ | refine St.WF.set ?_ ?_ _ | refine St.WF.grow ?_ _ _ _ | refine St.WF.keep ?_ ?_ | (first | omega | (simp only [RowOk.lo, nx]; first | done | omega))))⟩
  rfl
theorem sortHs_w {k c : Nat} {zs : List D} (l : List H32) (ho : OwnH S k c zs l) (hn : l.length ≤ 1000000) :
    DCalls Try.prog 48 [.win k 0 l.length c, .fn (.func 49) [] []] S (fun d T => d = .tup [] ∧ ∃ l' : List H32, l'.Perm l ∧ l'.Pairwise (fun a b => ltOf cmpH b a = false) ∧ T = S.set k (ownOb 44 (l'.map encH) zs c)) := by
  rcases Nat.eq_zero_or_pos c with h0 | h0
  · subst h0
    have hl : l = [] := List.eq_nil_of_length_eq_zero (by have := ho.le; omega)
    subst hl
    refine (sort0H_d k 0 S).mono ?_
    rintro d T ⟨rfl, rfl⟩
    exact ⟨rfl, [], .nil, .nil, (ob_self ho.ob).symm⟩
  · have hk := ho.ob
    rw [ownOb_box h0] at hk
    have key := dsort (S := S) (k := k) (c := c) (A := []) (B := zs) (t := 44) (l := l) rfl sortHsL isAgg_hash sizeOf_hash (by intro _ _; kernel_rfl) hsVs_len hsVs_one encH_hv swo_cmpH (g := 49) (by intro _ _; kernel_rfl) sortCmp_d hk hn
    refine DCalls.mono key ?_
    rintro d T ⟨rfl, l', h1, h2, rfl⟩
    exact ⟨rfl, l', h1, h2, by rw [ownOb_box h0]; rfl⟩
theorem hsort_w {S : St} (own : Own) (l : List H32) (hn : l.length ≤ 1000000) :
    DCalls Try.prog 31 [.sl own (l.map encH)] S fun d T => ∃ k c zs, d = .win k 0 (sortH l).length c ∧ S.next ≤ k ∧ OwnH T k c zs (sortH l) ∧ S.Sub T := by
  refine dcalls_inline mixed Try.func31 rfl (fun _ _ => by kernel_rfl) (rs := [.tmp 2]) rfl (by kernel_rfl) (fun hS => ?_)
  (simp (disch := first | decide | omega | (simp only [nx]; first | done | omega)) only [go_sem]; (repeat with_reducible refine aI ?_))
  refine dapp_nil elHs (dappend_fresh elHs (by rw [elHs]; rfl) zeHs zoHs (es2 := l.map encH) (srcOk_sl (by rw [szHs]; exact wHs l)) rfl (by rw [List.length_map]; omega) (by rw [byHs, List.length_map]; omega) fun c zs h1 h2 => ?_)
  rw [szHs] at h2
  (simp (disch := first | decide | omega | (simp only [nx]; first | done | omega)) only [go_sem]; (repeat with_reducible refine aI ?_))
  refine (sortHs_w (S := S.add (ownOb 44 (l.map encH) zs c)) l ⟨by (first | (simp (disch := first | decide | omega | (simp only [nx]; first | done | omega)) only [go_sem]; first | done | rfl) | rfl), h2, by show S.next < S.next + 1; omega⟩ hn).mono ?_
  rintro d T ⟨rfl, l', hp, hs, rfl⟩
  (simp (disch := first | decide | omega | (simp only [nx]; first | done | omega)) only [go_sem]; (repeat with_reducible refine aI ?_))
  have hl := hp.length_eq
  have hpl := packH_sort hp hs
  have key := compactH_w (S := (S.add (ownOb 44 (l.map encH) zs c)).set S.next (ownOb 44 (l'.map encH) zs c)) (k := S.next) (c := c) (zs := zs) l' ⟨by (first | (simp (disch := first | decide | omega | (simp only [nx]; first | done | omega)) only [go_sem]; first | done | rfl) | rfl), by simp only [List.length_append, flatHs_len] at h2 ⊢; omega, by show S.next < S.next + 1; omega⟩ (by omega)
  rw [hl, hpl] at key
  refine key.mono ?_
  rintro d T ⟨zs', rfl, ho, hnx, hf⟩
  (simp (disch := first | decide | omega | (simp only [nx]; first | done | omega)) only [go_sem]; (repeat with_reducible refine aI ?_))
  refine ⟨S.next, c, zs', rfl, Nat.le_refl _, ho, by have : S.next + 1 ≤ T.next := hnx; omega, fun j o h => ?_⟩
  have := hS.lt h
  have hj : j ≠ S.next := by omega
  refine hf j o hj ?_
  (first | (simp (disch := first | decide | omega | (simp only [nx]; first | done | omega)) only [go_sem, hj, h]; first | done | rfl) | rfl)
theorem hsort_d (own : Own) (l : List H32) (hn : l.length ≤ 1000000) : DPure Try.prog 31 [.sl own (l.map encH)] (.sl .no ((sortH l).map encH)) := dpure_ownH fun _ _ => hsort_w own l hn
end
end Go.Proofs.Ytonncfminojejaa

namespace Go.Proofs.Ytonncfminojejaa
open Go.RowKit
def ixOf {α : Type} (p : α → Bool) (l : List α) : Int := if l.any p then ((l.findIdx p : Nat) : Int) else -1
theorem ixOf_at {α : Type} {p : α → Bool} {l : List α} {i : Nat} (h : i < l.length) (hp : p l[i] = true) (hs : ∀ j (h : j < l.length), j < i → p l[j] = false) : ixOf p l = (i : Int) := by
  have h1 : l.any p = true := List.any_eq_true.2 ⟨l[i], List.getElem_mem _, hp⟩
  have h2 : l.findIdx p = i := by
    rw [List.findIdx_eq h]
    exact ⟨hp, fun j hj => hs j (by omega) hj⟩
  rw [ixOf, if_pos h1, h2]
theorem ixOf_none {α : Type} {p : α → Bool} {l : List α} (hs : ∀ j (h : j < l.length), p l[j] = false) : ixOf p l = -1 := by
  have h1 : l.any p = false := List.any_eq_false.2 fun x hx => by
    obtain ⟨i, hi, rfl⟩ := List.getElem_of_mem hx
    rw [hs i hi]; simp
  rw [ixOf, if_neg (by rw [h1]; simp)]
theorem ixOf_any {α : Type} (p : α → Bool) (l : List α) : decide (ixOf p l ≥ 0) = l.any p := by
  unfold ixOf
  cases l.any p <;> simp
section
set_option maxRecDepth 200000
set_option maxHeartbeats 4000000
end
end Go.Proofs.Ytonncfminojejaa

namespace Go.Proofs.Ytonncfminojejaa
open Go.RowKit Go.Extern.Stop Go.Stop Go.Extern
abbrev erD (n : Int) : D := .ifc 51 (.v (.int .i64 n))
section
variable {P : Program} {S : St} {K : D → St → Prop}
end
section
variable {S : St} {K : D → St → Prop} {u : D}
end
section
variable {S : St} {K : D → St → Prop}
end

end Go.Proofs.Ytonncfminojejaa

namespace Go.Proofs.Ytonncfminojejaa
open Go.RowKit
theorem dat_ownH {g : FuncId} {args : List D} {S : St} {l : List H32} (h : S.WF → DCalls Try.prog g args S fun d T => ∃ k c zs, d = .win k 0 l.length c ∧ S.next ≤ k ∧ OwnH T k c zs l ∧ S.Sub T) : DAt Try.prog g args S (.sl .no (l.map encH)) := fun base η w vs hM hr =>
  calls_fin ((h hM.fresh).mono fun d T ⟨k, c, zs, e, hk, ho, hs⟩ => ⟨T.drop k, .sl .no (l.map encH), by
    subst e
    refine thawH ho ?_
    simp only [D.thaw, List.length_map, Nat.beq_refl, Bool.and_self, cond_true], fin_same hM.fresh (closed_Hs l) ⟨hs.next, fun j o hj => by
    have := St.WF.lt (S := S) hM.fresh hj
    simp only [St.drop]
    rw [if_neg (by omega)]
    exact hs.ob j o hj⟩⟩) base η w vs hM hr
section
set_option maxRecDepth 200000
set_option maxHeartbeats 4000000
theorem closed_bB (l : List UInt8) : (D.sl .no (l.map bD)).closed := by
  simp only [D.closed, D.all, Own.all, true_and]
  refine allL_iff.2 fun d hd => ?_
  obtain ⟨b, _, rfl⟩ := List.mem_map.1 hd
  simp [bD, D.all]
theorem frz_bB (l : List UInt8) : frzL (l.map bD) = l.map bD := by simp [frzL_map, bD, D.frz, Function.comp_def]
theorem elBy : elT Try.prog 29 = some 5 := by kernel_rfl
theorem szBy : szOf Try.prog 5 = 1 := by kernel_rfl
theorem byBy : bytesOf Try.prog 5 = 1 := by kernel_rfl
theorem zeBy : zeroT Try.prog 5 = true := by kernel_rfl
theorem wBy (l : List UInt8) : ∀ d ∈ l.map bD, d.width = 1 := fun d hd => by obtain ⟨x, _, rfl⟩ := List.mem_map.1 hd; rfl
end
end Go.Proofs.Ytonncfminojejaa

namespace Go.Proofs.Ytonncfminojejaa
open Go.RowKit
section
variable {P : Program} {w : World} {η : Names} {X X' : Nat → Nat → Prop}
end
theorem dpure_nil {P : Program} {g : FuncId} {args : List D} {x : Value} (hc : allL (fun _ => False) args) (h : DAt P g args St.nil (.v x)) : DPure P g args (.v x) := fun S base η w vs hM hr => by
  have hg : GlobOk w.heap.size w := fun p hp => ⟨Nat.lt_of_lt_of_le (hM.glob p hp).1 hM.base_, (hM.glob p hp).2⟩
  have K : Keep (fun _ => False) w η (Fix P S η) w (fun _ => none) (Fix P St.nil fun _ => none) := ⟨Nat.le_refl _, fun b i _ _ => ⟨fix_nil b i, rfl⟩, fun _ _ h => h.elim, fun _ cur _ h => ⟨cur, h, rfl⟩⟩
  rcases h w.heap.size _ w vs (mem_nil w hg) (RepL.keep K hc hr) with ⟨h1, k⟩ | ⟨d, S', η', u, w', k, ⟨rfl, _⟩, h3, h4⟩
  · refine .inl ⟨h1, k.mono fun _ _ ⟨d, S', η', u, ⟨h1, _⟩, h2, h3, h4⟩ => ?_⟩
    subst h1
    simp only [Rep] at h3
    subst h3
    exact ⟨.v _, S, η, _, ⟨rfl, rfl⟩, h2, by simp only [Rep], goes_below hM h4.below h4.drawn⟩
  · simp only [Rep] at h3
    subst h3
    exact .inr ⟨.v _, S, η, _, w', k, ⟨rfl, rfl⟩, by simp only [Rep], goes_below hM h4.below h4.drawn⟩
end Go.Proofs.Ytonncfminojejaa

namespace Go.Proofs.Ytonncfminojejaa
open Go.RowKit
def encB (l : List UInt8) : D := .sl .no (l.map bD)
theorem width_encB (l : List UInt8) : (encB l).width = 1 := rfl
section
set_option maxRecDepth 200000
set_option maxHeartbeats 8000000
end
end Go.Proofs.Ytonncfminojejaa

namespace Go.Proofs.Ytonncfminojejaa
open Go.ChangeShapes Go.WideShapes Go.ChangeAt Go.RowKit Go.Deep Go.Joins
section
set_option maxRecDepth 20000
variable {H : Type} {enc : TypeId × Value → H} {w : World}
theorem ess_cell {fuel : Nat} {cs : List Value} {x : DataW H × List MemPlace} (h : DataW.trod enc Try.prog w 0 (fun _ => true) true fuel 24 cs = some x) (hs : Sized Try.prog 24 x.1) :
    ∃ l : List (List UInt8), (∀ b ∈ l, b.length ≤ 140737488351232) ∧ l.length ≤ 140737488351232 ∧ ∃ u, cs = [u] ∧ ∀ (η : Names) (X : Nat → Nat → Prop), (∀ b i, X b i) → Rep Try.prog w η X (.sl .no (l.map encB)) u := by
  obtain ⟨A, c, l, hcs, hlc, hr, hb⟩ := open_rows_trod (P := Try.prog) (α := List UInt8) (size := 1) (bytes := 24) Try.underlying24 (by kernel_rfl) (by omega) (by kernel_rfl) (by omega)
    (fun b o a => a.length ≤ 140737488351232 ∧ ∃ u, w.cell? ⟨b, o, none⟩ = some u ∧ ∀ (η : Names) (X : Nat → Nat → Prop), (∀ b i, X b i) → Rep Try.prog w η X (.sl .no (a.map bD)) u) (fun fuel cs x b o _ hx hsx hlen hcell => by
      obtain ⟨a, _, ha, u, e, hru⟩ := open_cells_trod (P := Try.prog) (fun n : UInt8 => Value.int .u8 (n.toNat : Int)) (fun _ => rfl) (bytes := 1) Try.underlying29 (by kernel_rfl) (by kernel_rfl) (by omega) (fun a => True) (fun fuel u x hx _ => by
        obtain ⟨n, e, _, hw⟩ := DataW.trod_int Try.underlying5 hx
        have hb := bounds_u8 hw
        injection e with e _
        refine ⟨UInt8.ofNat n.toNat, trivial, ?_⟩
        have e2 : (((UInt8.ofNat n.toNat).toNat : Nat) : Int) = n := by
          rw [UInt8.toNat_ofNat_of_lt' (by show n.toNat < 256; omega)]; omega
        rw [e2]; exact e) hx hsx
      subst e
      exact ⟨a, ha, u, hcell 0 u rfl, hru⟩) h hs
  have hbb : l.length ≤ 140737488351232 := by omega
  refine ⟨l, fun a ha => ?_, hbb, _, hcs, fun η X hX => ?_⟩
  · obtain ⟨i, hi, rfl⟩ := List.getElem_of_mem ha
    obtain ⟨b, o, _, _, hf⟩ := hr (by omega)
    exact (hf i _ (List.getElem?_eq_getElem hi)).1
  · simp only [Rep]
    refine ⟨A, c, by rw [List.length_map], by rw [List.length_map]; exact hlc, by rw [List.length_map]; omega, trivial, fun h0 => ?_⟩
    rw [List.length_map] at h0
    obtain ⟨b, o, e, hbl, hf⟩ := hr h0
    refine ⟨b, o, 1, e, by omega, RepE.mk fun i d hd => ?_⟩
    rw [List.getElem?_map] at hd
    cases hi : l[i]? with
    | none => rw [hi] at hd; cases hd
    | some a =>
      rw [hi] at hd
      injection hd with hd
      subst hd
      obtain ⟨_, u, h1, h2⟩ := hf i a hi
      have h3 := h2 η X hX
      exact ⟨by simp only [encB, RepA], fun _ => ⟨rfl, hX _ _, u, h1, by simp only [Rep] at h3; obtain ⟨A', c', rfl, _⟩ := h3; rfl, h3⟩⟩
theorem open_ess {v : Value} {d : DataW H} {p : List MemPlace} {W : World} {base : Nat} (h : DataW.Trod enc Try.prog w 0 (fun _ => true) true 24 v d p) (hs : Sized Try.prog 24 d) (hk : Value.okWide Try.prog W .any base 24 v) :
    ∃ l : List (List UInt8), (∀ b ∈ l, b.length ≤ 140737488351232) ∧ l.length ≤ 140737488351232 ∧ ∀ (η : Names) (X : Nat → Nat → Prop), (∀ b i, X b i) → Rep Try.prog w η X (.sl .no (l.map encB)) v := by
  obtain ⟨a, n, c, rfl⟩ := okWide_slice Try.underlying24 hk
  obtain ⟨fuel, h⟩ := h
  obtain ⟨l, h1, h2, u, e, h3⟩ := ess_cell h hs
  obtain rfl : Value.slice a n c = u := by simpa [Value.cells] using e
  exact ⟨l, h1, h2, h3⟩
end
end Go.Proofs.Ytonncfminojejaa

namespace Go.Proofs.Ytonncfminojejaa
open Go.RowKit
def IsU64 (n : Nat) : Prop := n < 18446744073709551616
theorem wrap_u64 (n : Nat) (h : IsU64 n) : IntKind.u64.wrap (n : Int) = n := by
  unfold IsU64 at h
  simp only [IntKind.wrap_u64]
  omega
theorem or80' : ∀ x : Fin 256, bits BinOp.or IntKind.u8 (x.val : Int) 128 = ((x.val % 128 + 128 : Nat) : Int) := by decide +kernel
theorem or80 (k : Nat) : bits BinOp.or IntKind.u8 ((k : Int) % 256) 128 = ((k % 128 + 128 : Nat) : Int) := by
  have h := or80' ⟨k % 256, by omega⟩
  simp only at h
  rw [show ((k : Int) % 256) = ((k % 256 : Nat) : Int) from by omega, h]
  omega
section
variable {P : Program} {t : TypeId} {x y : Operand}
theorem bin_or (k : IntKind) (a b : Int) : dbin P .or t x y (.v (.int k a)) (.v (.int k b)) = some (True, .v (.int k (bits .or k a b))) := by
  simp [dbin, eqGuard, binOp, intBits_or, pureRun_bind, pureRun_pure]
theorem bin_xor (k : IntKind) (a b : Int) : dbin P .xor t x y (.v (.int k a)) (.v (.int k b)) = some (True, .v (.int k (bits .xor k a b))) := by
  simp [dbin, eqGuard, binOp, intBits_xor, pureRun_bind, pureRun_pure]
theorem bin_andNot (k : IntKind) (a b : Int) : dbin P .andNot t x y (.v (.int k a)) (.v (.int k b)) = some (True, .v (.int k (bits .andNot k a b))) := by
  simp [dbin, eqGuard, binOp, intBits_andNot, pureRun_bind, pureRun_pure]
theorem bin_shr7 (a : Nat) : dbin P .shr t x y (.v (.int .u64 a)) (.v (.int .u64 7)) = some (True, .v (.int .u64 ((a / 128 : Nat) : Int))) := by
  simp [dbin, eqGuard, binOp, shift_shr .u64 .u64 (a : Int) 7 (by omega) (by decide), pureRun_bind, pureRun_pure]
theorem bin_shr63 (a : Int) : dbin P .shr t x y (.v (.int .i64 a)) (.v (.int .u64 63)) = some (True, .v (.int .i64 (a / 9223372036854775808))) := by
  simp [dbin, eqGuard, binOp, shift_shr .i64 .u64 a 63 (by omega) (by decide), pureRun_bind, pureRun_pure]
theorem bin_shl1 (a : Int) : dbin P .shl t x y (.v (.int .u64 a)) (.v (.int .u64 1)) = some (True, .v (.int .u64 (IntKind.u64.wrap (a * 2)))) := by
  simp [dbin, eqGuard, binOp, Op.shift, IntKind.bits, pureRun_bind, pureRun_pure]
end
theorem cv_u64u8 (n : Int) : pureRun Try.prog (convert 58 5 (.int .u64 n)) = some (.int .u8 (IntKind.u8.wrap n)) := by kernel_rfl
theorem cv_i64u64 (n : Int) : pureRun Try.prog (convert 3 58 (.int .i64 n)) = some (.int .u64 (IntKind.u64.wrap n)) := by kernel_rfl
theorem cv_u64i64 (n : Int) : pureRun Try.prog (convert 58 3 (.int .u64 n)) = some (.int .i64 (IntKind.i64.wrap n)) := by kernel_rfl
theorem cv_u8u64 (n : Int) : pureRun Try.prog (convert 5 58 (.int .u8 n)) = some (.int .u64 (IntKind.u64.wrap n)) := by kernel_rfl
theorem cv_i64u8 (n : Int) : pureRun Try.prog (convert 3 5 (.int .i64 n)) = some (.int .u8 (IntKind.u8.wrap n)) := by kernel_rfl
theorem u8T_u8 : u8T Try.prog 5 = true := by kernel_rfl
attribute [go_sem] u8T_u8
attribute [go_sem] bin_or bin_xor bin_andNot bin_shr7 bin_shr63 bin_shl1 cv_u64u8 cv_i64u64 cv_u64i64 cv_u8u64 cv_i64u8
def WAt (k : Nat) (bs : List UInt8) (T : St) : Prop := ∃ own, T.ob k = some (.box 53 [.sl own (bs.map bD)]) ∧ ((own = .full ∧ bs = []) ∨ ∃ g, own = .row g ∧ k < g ∧ T.ob g = some (.row 5 bs.length))
structure WFr (k : Nat) (S T : St) : Prop where
  next : S.next ≤ T.next
  ob : ∀ j o, (j < k ∨ (j ≠ k ∧ ∃ t cs, o = .box t cs)) → S.ob j = some o → T.ob j = some o
theorem WFr.box {k : Nat} {S T : St} (h : WFr k S T) (j : Nat) (t : TypeId) (cs : List D) (hj : j ≠ k) (e : S.ob j = some (.box t cs)) : T.ob j = some (.box t cs) := h.ob j _ (.inr ⟨hj, t, cs, rfl⟩) e
theorem WFr.of_keep {k : Nat} {S T : St} (hn : S.next ≤ T.next) (h : ∀ j o, S.ob j = some o → T.ob j = some o) : WFr k S T := ⟨hn, fun j o _ e => h j o e⟩
theorem WFr.refl (k : Nat) (S : St) : WFr k S S := ⟨Nat.le_refl _, fun _ _ _ h => h⟩
theorem WFr.trans {k : Nat} {A B C : St} (h : WFr k A B) (g : WFr k B C) : WFr k A C := ⟨Nat.le_trans h.next g.next, fun j o hj e => g.ob j o hj (h.ob j o hj e)⟩
theorem wd_bD (l : List UInt8) : ∀ d ∈ l.map bD, d.width = szOf Try.prog 5 := by
  intro d hd
  obtain ⟨b, _, rfl⟩ := List.mem_map.1 hd
  exact Eq.trans rfl (by kernel_rfl : 1 = szOf Try.prog 5)
theorem dapp_bytes {S : St} {ty : TypeId} {own own2 : Own} {bs xs : List UInt8} {K : D → St → Prop} (h : (own = .full ∧ bs = []) ∨ ∃ g, own = .row g ∧ S.ob g = some (.row 5 bs.length)) (hl : bs.length + xs.length ≤ 1099511627776)
    (k : K (.sl (.row S.next) ((bs ++ xs).map bD)) (S.grow own 5 (bs.length + xs.length))) : dapp Try.prog S 29 29 ty (.sl own (bs.map bD)) (.sl own2 (xs.map bD)) K := by
  refine dapp_row ?_
  have he : elT Try.prog 29 = some 5 := by kernel_rfl
  have hb : bytesOf Try.prog 5 = 1 := by kernel_rfl
  have hz : zeroT Try.prog 5 = true := by kernel_rfl
  simp only [dappend, he, hz, hb, List.length_map, ← List.map_append, true_and, Option.isSome_some]
  refine ⟨wd_bD bs, wd_bD xs, ?_, by omega, by omega, k⟩
  rcases h with ⟨rfl, rfl⟩ | ⟨g, rfl, h⟩
  · trivial
  · exact h
set_option maxRecDepth 200000 in
set_option maxHeartbeats 4000000 in
theorem raw_w {S : St} {k : Nat} {bs : List UInt8} (own2 : Own) (xs : List UInt8) (hk : k < S.next) (h : WAt k bs S) (hl : bs.length + xs.length ≤ 1099511627776) : DCalls Try.prog 24 [.loc k 0, .sl own2 (xs.map bD)] S fun d T => d = undefD ∧ WAt k (bs ++ xs) T ∧ WFr k S T := by
  obtain ⟨own, h1, h2⟩ := h
  refine dcalls_inline mixed Try.func24 rfl (fun _ _ => by kernel_rfl) (rs := []) rfl (by kernel_rfl) (fun hS => ?_)
  (simp (disch := first | decide | omega | (simp only [nx]; first | done | omega)) only [go_sem, h1]; (repeat with_reducible refine aI ?_))
  have hk2 : (k = S.next) = False := by simp; omega
  rcases h2 with ⟨rfl, rfl⟩ | ⟨g, rfl, hg, h2⟩
  · refine dapp_bytes (.inl ⟨rfl, rfl⟩) (by omega) ?_
    (simp (disch := first | decide | omega | (simp only [nx]; first | done | omega)) only [go_sem, hk2, h1]; (repeat with_reducible refine aI ?_))
    refine ⟨⟨.row S.next, by simp [St.set], .inr ⟨S.next, rfl, by omega, ?_⟩⟩, ⟨by simp [St.set, St.grow, St.leave, St.add], fun j o hj e => ?_⟩⟩
    · simp [St.grow, St.leave, St.add, St.set, Ne.symm (show k ≠ S.next by omega)]
    · have hlt := hS.lt e
      have hj : j ≠ k := by rcases hj with h | h; omega; exact h.1
      simp [St.grow, St.leave, St.add, St.set, hj, show j ≠ S.next by omega, e]
  · have hkg : (k = g) = False := by simp; omega
    refine dapp_bytes (.inr ⟨g, rfl, h2⟩) (by omega) ?_
    (simp (disch := first | decide | omega | (simp only [nx]; first | done | omega)) only [go_sem, hk2, hkg, h1]; (repeat with_reducible refine aI ?_))
    refine ⟨⟨.row S.next, by simp [St.set], .inr ⟨S.next, rfl, by omega, ?_⟩⟩, ⟨by simp [St.set, St.grow, St.leave, St.add, St.drop], fun j o hj e => ?_⟩⟩
    · simp [St.grow, St.leave, St.add, St.set, St.drop, Ne.symm (show k ≠ S.next by omega)]
    · have hlt := hS.lt e
      have hjg : j ≠ g := fun e2 => by
        rcases hj with h | ⟨_, t, cs, rfl⟩
        · omega
        · rw [e2, h2] at e; cases e
      have hj : j ≠ k := by rcases hj with h | h; omega; exact h.1
      simp [St.grow, St.leave, St.add, St.set, St.drop, hj, hjg, show j ≠ S.next by omega, e]
theorem WAt.box {k : Nat} {bs : List UInt8} {S T : St} (h : WAt k bs S) (hn : S.next ≤ T.next) (hS : S.WF) (hb : ∀ j o, S.ob j = some o → T.ob j = some o) : WAt k bs T := by
  obtain ⟨own, h1, h2⟩ := h
  refine ⟨own, hb _ _ h1, h2.imp id fun ⟨g, h3, h4, h5⟩ => ⟨g, h3, h4, hb _ _ h5⟩⟩
theorem add_keep {S : St} (hS : S.WF) (o : Ob) : ∀ j o', S.ob j = some o' → (S.add o).ob j = some o' := by
  intro j o' h
  have hlt := hS.lt h
  simp [St.add, show j ≠ S.next by omega, h]
theorem WAt.add {k : Nat} {bs : List UInt8} {S : St} (h : WAt k bs S) (hS : S.WF) (o : Ob) : WAt k bs (S.add o) := h.box (Nat.le_succ _) hS (add_keep hS o)
theorem WFr.add {k : Nat} {S T : St} (h : WFr k S T) (hT : T.WF) (o : Ob) : WFr k S (T.add o) := h.trans (WFr.of_keep (Nat.le_succ _) (add_keep hT o))
set_option maxRecDepth 200000 in
set_option maxHeartbeats 4000000 in
theorem byte_w {S : St} {k : Nat} {bs : List UInt8} (b : UInt8) (hk : k < S.next) (h : WAt k bs S) (hl : bs.length + 1 ≤ 1099511627776) : DCalls Try.prog 22 [.loc k 0, bD b] S fun d T => d = undefD ∧ WAt k (bs ++ [b]) T ∧ WFr k S T := by
  refine dcalls_inline mixed Try.func22 rfl (fun _ _ => by kernel_rfl) (rs := []) rfl (by kernel_rfl) (fun hS => ?_)
  (simp (disch := first | decide | omega | (simp only [nx]; first | done | omega)) only [go_sem, show bD b = .v (.int .u8 b.toNat) from rfl]; (repeat with_reducible refine aI ?_))
  refine (raw_w .full [b] hk h hl).mono ?_
  rintro _ T ⟨rfl, h1, h2⟩
  (simp (disch := first | decide | omega | (simp only [nx]; first | done | omega)) only [go_sem]; (repeat with_reducible refine aI ?_))
  exact h2
theorem bD1 (n : Nat) (h : n < 256) : [D.v (.int .u8 (n : Int))] = [b8 n].map bD := by
  simp [bD, b8_toNat n h]
theorem wrap_u8 (n : Nat) : IntKind.u8.wrap (n : Int) = (n : Int) % 256 := IntKind.wrap_u8 _
set_option maxRecDepth 200000 in
set_option maxHeartbeats 4000000 in
theorem number_w {S : St} {k : Nat} {bs : List UInt8} (n : Nat) (hn : IsU64 n) (hk : k < S.next) (h : WAt k bs S) (hl : bs.length + 10 ≤ 1099511627776) : DCalls Try.prog 25 [.loc k 0, .v (.int .u64 (n : Int))] S fun d T => d = undefD ∧ WAt k (bs ++ numB n) T ∧ WFr k S T := by
  refine dcalls_inline mixed Try.func25 rfl (fun _ _ => by kernel_rfl) (rs := []) rfl (by kernel_rfl) (fun hS => ?_)
  (simp (disch := first | decide | omega | (simp only [nx]; first | done | omega)) only [go_sem]; (repeat with_reducible refine aI ?_))
  have hnl := numB_length_le n hn
  refine dloop_down (fun t => List.contains [1, 4, 5, 6, 7, 8, 9, 10, 11, 12, 13] t) (by kernel_rfl) hS (fun m g T => ∃ done, done ++ numB m = numB n ∧ IsU64 m ∧ g 1 = .v (.int .u64 (m : Int)) ∧ WAt k (bs ++ done) T ∧ WFr k S T) n ⟨[], rfl, hn, rfl, by rw [List.append_nil]; exact h, WFr.refl k S⟩ ?_
  rintro m g T hT hg ⟨done, hd, hm, q1, hW, hF⟩
  have q0 : g 0 = .loc k 0 := hg 0 rfl
  have hkT : k < T.next := Nat.lt_of_lt_of_le hk hF.next
  have hdl : (bs ++ done).length + 1 ≤ 1099511627776 := by
    have := congrArg List.length hd
    rw [List.length_append] at this
    have := numB_pos m
    rw [List.length_append]; omega
  by_cases hlt : m < 128
  · have b1 : decide ((128 : Int) ≤ (m : Int)) = false := by simp; omega
    have w8 : IntKind.u8.wrap (m : Int) = (m : Int) := by rw [wrap_u8]; omega
    (simp (disch := first | decide | omega | (simp only [nx]; first | done | omega)) only [go_sem, q0, q1, b1, w8]; (repeat with_reducible refine aI ?_))
    rw [bD1 m (by omega)]
    refine (raw_w .full [b8 m] hkT hW hdl).mono ?_
    rintro _ T1 ⟨rfl, h1, h2⟩
    (simp (disch := first | decide | omega | (simp only [nx]; first | done | omega)) only [go_sem]; (repeat with_reducible refine aI ?_))
    refine ⟨?_, hF.trans h2⟩
    rw [← hd, numB_lt m hlt, ← List.append_assoc]; exact h1
  · have b1 : decide ((128 : Int) ≤ (m : Int)) = true := by simp; omega
    (simp (disch := first | decide | omega | (simp only [nx]; first | done | omega)) only [go_sem, q0, q1, b1, wrap_u8, or80]; (repeat with_reducible refine aI ?_))
    rw [bD1 (m % 128 + 128) (by omega)]
    refine (raw_w .full [b8 (m % 128 + 128)] hkT hW hdl).mono ?_
    rintro _ T1 ⟨rfl, h1, h2⟩
    (simp (disch := first | decide | omega | (simp only [nx]; first | done | omega)) only [go_sem, q0, q1]; (repeat with_reducible refine aI ?_))
    refine ⟨m / 128, T1.ob, by omega, fun _ _ h => h, done ++ [b8 (m % 128 + 128)], ?_, by unfold IsU64 at *; omega, ?_, by rw [← List.append_assoc]; exact h1, hF.trans h2⟩
    · rw [List.append_assoc, ← hd, numB_ge m hlt]; rfl
    · (first | (simp (disch := first | decide | omega | (simp only [nx]; first | done | omega)) only [go_sem]; first | done | rfl) | rfl)
set_option maxRecDepth 200000 in
set_option maxHeartbeats 4000000 in
theorem bytes_w {S : St} {k : Nat} {bs : List UInt8} (own2 : Own) (xs : List UInt8) (hk : k < S.next) (h : WAt k bs S) (hl : bs.length + xs.length + 10 ≤ 1099511627776) : DCalls Try.prog 26 [.loc k 0, .sl own2 (xs.map bD)] S fun d T => d = undefD ∧ WAt k (bs ++ (numB xs.length ++ xs)) T ∧ WFr k S T := by
  refine dcalls_inline mixed Try.func26 rfl (fun _ _ => by kernel_rfl) (rs := []) rfl (by kernel_rfl) (fun hS => ?_)
  have hu : IsU64 xs.length := by unfold IsU64; omega
  (simp (disch := first | decide | omega | (simp only [nx]; first | done | omega)) only [go_sem, wrap_u64 xs.length hu]; (repeat with_reducible refine aI ?_))
  refine (number_w xs.length hu hk h (by omega)).mono ?_
  rintro _ T ⟨rfl, h1, h2⟩
  (simp (disch := first | decide | omega | (simp only [nx]; first | done | omega)) only [go_sem]; (repeat with_reducible refine aI ?_))
  have := numB_length_le xs.length hu
  refine (raw_w own2 xs (Nat.lt_of_lt_of_le hk h2.next) h1 (by rw [List.length_append]; omega)).mono ?_
  rintro _ T1 ⟨rfl, h3, h4⟩
  (simp (disch := first | decide | omega | (simp only [nx]; first | done | omega)) only [go_sem]; (repeat with_reducible refine aI ?_))
  refine ⟨by rw [← List.append_assoc]; exact h3, h2.trans h4⟩
set_option maxRecDepth 200000 in
set_option maxHeartbeats 4000000 in
theorem bool_w {S : St} {k : Nat} {bs : List UInt8} (b : Bool) (hk : k < S.next) (h : WAt k bs S) (hl : bs.length + 1 ≤ 1099511627776) : DCalls Try.prog 23 [.loc k 0, .v (.bool b)] S fun d T => d = undefD ∧ WAt k (bs ++ [if b then 1 else 0]) T ∧ WFr k S T := by
  refine dcalls_inline mixed Try.func23 rfl (fun _ _ => by kernel_rfl) (rs := []) rfl (by kernel_rfl) (fun hS => ?_)
  cases b
  · (simp (disch := first | decide | omega | (simp only [nx]; first | done | omega)) only [go_sem]; (repeat with_reducible refine aI ?_))
    refine (raw_w .full [0] hk h (by simpa using hl)).mono ?_
    rintro _ T ⟨rfl, h1, h2⟩
    (simp (disch := first | decide | omega | (simp only [nx]; first | done | omega)) only [go_sem]; (repeat with_reducible refine aI ?_))
    exact ⟨h1, h2⟩
  · (simp (disch := first | decide | omega | (simp only [nx]; first | done | omega)) only [go_sem]; (repeat with_reducible refine aI ?_))
    refine (raw_w .full [1] hk h (by simpa using hl)).mono ?_
    rintro _ T ⟨rfl, h1, h2⟩
    (simp (disch := first | decide | omega | (simp only [nx]; first | done | omega)) only [go_sem]; (repeat with_reducible refine aI ?_))
    exact h2
set_option maxRecDepth 200000 in
set_option maxHeartbeats 4000000 in
theorem out_w {S : St} {k : Nat} {bs : List UInt8} (h : WAt k bs S) (hl : bs.length ≤ 1099511627776) : DCalls Try.prog 27 [.loc k 0] S fun d T => ∃ o, d = .sl o (bs.map bD) ∧ WAt k bs T ∧ WFr k S T := by
  obtain ⟨own, h1, h2⟩ := h
  refine dcalls_inline mixed Try.func27 rfl (fun _ _ => by kernel_rfl) (rs := [.tmp 2]) rfl (by kernel_rfl) (fun hS => ?_)
  (simp (disch := first | decide | omega | (simp only [nx]; first | done | omega)) only [go_sem, h1]; (repeat with_reducible refine aI ?_))
  refine dapp_bytes (bs := []) (.inl ⟨rfl, rfl⟩) (by simpa using hl) ?_
  (simp (disch := first | decide | omega | (simp only [nx]; first | done | omega)) only [go_sem]; (repeat with_reducible refine aI ?_))
  have hob : ∀ j o, S.ob j = some o → (S.grow .full 5 bs.length).ob j = some o := fun j o e => by
    have hlt := hS.lt e
    simp [St.grow, St.leave, St.add, show j ≠ S.next by omega, e]
  exact ⟨_, rfl, ⟨own, hob _ _ h1, h2.imp id fun ⟨g, h3, h4, h5⟩ => ⟨g, h3, h4, hob _ _ h5⟩⟩, WFr.of_keep (by simp [St.grow, St.leave, St.add]) hob⟩
end Go.Proofs.Ytonncfminojejaa

namespace Go.Proofs.Ytonncfminojejaa
open Go.RowKit
section
variable {P : Program} {f : Fm} {S : St}
theorem pfin_ret3 (t u v : Tmp) (S' : St) (d : D) : DQ.pfin P [.tmp t, .tmp u, .tmp v] S d .ret f S' = PFin S S' (.tup [f t, f u, f v]) d := by
  simp [DQ.pfin, dresL, dres, onVal, one]
theorem pfin_normal3 (t u v : Tmp) (S' : St) (d : D) : DQ.pfin P [.tmp t, .tmp u, .tmp v] S d .normal f S' = PFin S S' (.tup [f t, f u, f v]) d := by
  simp [DQ.pfin, dresL, dres, onVal, one]
end
attribute [go_sem] pfin_ret3 pfin_normal3
end Go.Proofs.Ytonncfminojejaa

namespace Go.Proofs.Ytonncfminojejaa
open Go.RowKit
section
set_option maxRecDepth 200000
set_option maxHeartbeats 8000000
theorem placeH : placeT Try.prog 44 = some fun i => some (i * 1, 1) := by kernel_rfl
def hA : H32 := ⟨1 :: List.replicate 31 0, rfl⟩
def hB : H32 := ⟨2 :: List.replicate 31 0, rfl⟩
theorem wnil_eq (k : Nat) : dbin Try.prog .eql 31 (.tmp k) (.const .nilIface) (.v .nilIface) (.v .nilIface) = some (True, .v (.bool true)) := by kernel_rfl
end
end Go.Proofs.Ytonncfminojejaa

namespace Go.Proofs.Ytonncfminojejaa
open Go.RowKit
theorem sort_marks (l : List H32) : (lineM (l.map fun h => ((0 : Int), h))).map (·.2) = sortH l := by
  have hm : ∀ m ∈ lineM (l.map fun h => ((0 : Int), h)), m.1 = 0 := fun m hm => by
    obtain ⟨h, _, rfl⟩ := List.mem_map.1 ((mem_lineM _ m).1 hm)
    rfl
  refine ascH_ext ?_ (ascH_sortH _) fun h => ?_
  · show List.Pairwise _ _
    rw [List.pairwise_map]
    refine (List.Pairwise.and_mem.1 (asc_lineM _)).imp fun {a b} ⟨ha, hb, hab⟩ => ?_
    rcases (key_lt_iff a b).1 hab with e | ⟨_, e⟩
    · rw [hm a ha, hm b hb] at e; omega
    · show ((valH a.2 : Nat) : Int) < ((valH b.2 : Nat) : Int)
      omega
  · rw [mem_sortH, List.mem_map]
    constructor
    · rintro ⟨m, h1, rfl⟩
      obtain ⟨h, h2, rfl⟩ := List.mem_map.1 ((mem_lineM _ m).1 h1)
      exact h2
    · exact fun h1 => ⟨(0, h), (mem_lineM _ _).2 (List.mem_map.2 ⟨h, h1, rfl⟩), rfl⟩
section
set_option maxRecDepth 200000
set_option maxHeartbeats 8000000
theorem sorted_d (own0 : Own) (l : List H32) (hl : l.length ≤ 1000000) : DPure Try.prog 36 [.sl own0 (l.map encH)] (.sl .no ((sortH l).map encH)) := by
  refine dpure_of_dwp mixed Try.func36 rfl (fun _ _ => by kernel_rfl) (rs := [.tmp 2]) rfl (by kernel_rfl) (closed_Hs _) (fun S hS => ?_)
  (simp (disch := first | decide | omega | (simp only [nx]; first | done | omega)) only [go_sem]; (repeat with_reducible refine aI ?_))
  (refine dloop_row (fun t => List.contains [3, 4, 5, 6, 7, 8, 9, 10, 11, 12, 13, 14, 15, 16, 17, 18] t) (by kernel_rfl) ?_ (l.length) (96) (fun i own m f => i ≤ l.length ∧ f 4 = .v (.int .i64 (i : Nat)) ∧ f 3 = .sl own ((l.take i).map fun h => encM ((0 : Int), h)) ∧ (own = .full ∨ m = i)) ?_ ?_; (exact (by (repeat' first | assumption | refine St.WF.leave ?_ _ | refine St.WF.add ?_ _ | refine St.WF.set ?_ ?_ _ | refine St.WF.grow ?_ _ _ _ | refine St.WF.keep ?_ ?_ | (first | omega | (simp only [RowOk.lo, nx]; first | done | omega))))); (exact ⟨(by omega), (by (first | (simp (disch := first | decide | omega | (simp only [nx]; first | done | omega)) only [go_sem]; first | done | rfl) | rfl)), (by (first | (simp (disch := first | decide | omega | (simp only [nx]; first | done | omega)) only [go_sem]; first | done | rfl) | rfl)), (.inl rfl)⟩); intro i g tn own m hn hr hT hg hI; obtain ⟨le, q4, q3, hm⟩ := hI; have q0 := hg 0 rfl; have q2 := hg 2 rfl; simp (disch := first | decide | omega | (simp only [nx]; first | done | omega)) only [go_sem] at q0 q2; clear hg; have hn' := hn; try simp only [add_next, set_next, grow_next, leave_next, drop_next] at hn')
  have hro := fun {e m k} => rowOf_lt hr (e := e) (m := m) (k := k)
  by_cases hlt : i < l.length
  · have b1 : decide ((i : Int) < (l.length : Int)) = true := decide_eq_true (by omega)
    have w1 : IntKind.i64.wrap ((i : Int) + 1) = ((i + 1 : Nat) : Int) := IntWalk.i64_in _ ⟨by omega, by omega⟩
    have la := l[i].2
    have em : D.agg (.v (.int .i64 0) :: l[i].1.map bD) = encM ((0 : Int), l[i]) := rfl
    (simp (disch := first | decide | omega | (simp only [nx]; first | done | omega)) only [go_sem, q0, q3, q4, b1, hlt, la, hro, em]; (repeat with_reducible refine aI ?_))
    (refine dapp_grow (by (first | (simp (disch := first | decide | omega | (simp only [nx]; first | done | omega)) only [go_sem]; first | done | rfl) | rfl)) (by (first | (simp (disch := first | decide | omega | (simp only [nx]; first | done | omega)) only [go_sem]; first | done | rfl) | rfl)) (by (first | (simp (disch := first | decide | omega | (simp only [nx]; first | done | omega)) only [go_sem]; first | done | rfl) | rfl)) (fun d hd => ?_) (fun d hd => ?_) hr (by (repeat' first | assumption | exact St.Sub.refl _ | exact RowOk.sub (by assumption) (by assumption) | refine St.Sub.trans ?_ (RowOk.sub (by assumption) (by assumption)) | refine St.Sub.add ?_ ?_ _ | refine St.Sub.set ?_ ?_ ?_ _ | refine St.Sub.keep ?_ ?_ | refine St.WF.leave ?_ _ | refine St.WF.add ?_ _ | refine St.WF.set ?_ ?_ _ | refine St.WF.grow ?_ _ _ _ | refine St.WF.keep ?_ ?_ | (first | omega | (simp only [RowOk.lo, nx]; first | done | omega)))) ?_ ?_ ?_ ?_; (exact (by first | (simp (disch := first | decide | omega | (simp only [nx]; first | done | omega)) only [go_sem]; done) | (simp (disch := first | decide | omega | (simp only [nx]; first | done | omega)) only [go_sem]; exact (by obtain ⟨q, _, rfl⟩ := List.mem_map.1 hd; exact width_encM _)))); (exact (by first | (simp (disch := first | decide | omega | (simp only [nx]; first | done | omega)) only [go_sem]; done) | (simp (disch := first | decide | omega | (simp only [nx]; first | done | omega)) only [go_sem]; exact (by obtain rfl := List.mem_singleton.1 hd; exact width_encM _)))); (exact (by simp only [List.length_map, List.length_take, Nat.min_eq_left le]; exact hm)))
    · simp only [List.length_map, List.length_take, List.length_cons, List.length_nil]; omega
    · simp (disch := first | decide | omega | (simp only [nx]; first | done | omega)) only [go_sem]; simp only [List.length_take, List.length_map]; omega
    (simp (disch := first | decide | omega | (simp only [nx]; first | done | omega)) only [go_sem, q0, q3, q4, w1]; (repeat with_reducible refine aI ?_))
    (refine ⟨by omega, _, _, RowNext.grow (m := m) ?_ ?_ hr hn ?_ (St.Sub.refl _), ?_⟩; (exact (by (repeat' first | assumption | refine St.WF.leave ?_ _ | refine St.WF.add ?_ _ | refine St.WF.set ?_ ?_ _ | refine St.WF.grow ?_ _ _ _ | refine St.WF.keep ?_ ?_ | (first | omega | (simp only [RowOk.lo, nx]; first | done | omega))))); (exact (by (first | omega | (simp only [RowOk.lo, nx]; first | done | omega)))); (exact (by (repeat' first | assumption | exact St.Sub.refl _ | exact RowOk.sub (by assumption) (by assumption) | refine St.Sub.trans ?_ (RowOk.sub (by assumption) (by assumption)) | refine St.Sub.add ?_ ?_ _ | refine St.Sub.set ?_ ?_ ?_ _ | refine St.Sub.keep ?_ ?_ | refine St.WF.leave ?_ _ | refine St.WF.add ?_ _ | refine St.WF.set ?_ ?_ _ | refine St.WF.grow ?_ _ _ _ | refine St.WF.keep ?_ ?_ | (first | omega | (simp only [RowOk.lo, nx]; first | done | omega))))); refine ⟨by omega, ?_, ?_, ?_⟩; all_goals (try (first | (simp (disch := first | decide | omega | (simp only [nx]; first | done | omega)) only [go_sem, w1]; first | done | rfl) | rfl)))
    · rw [List.take_succ_eq_append_getElem hlt, List.map_append]; rfl
    · exact .inr (by simp only [List.length_take, List.length_map]; omega)
  · have b1 : decide ((i : Int) < (l.length : Int)) = false := decide_eq_false (by omega)
    have e9 : ((l.take i).map fun h => encM ((0 : Int), h)) = (l.map fun h => ((0 : Int), h)).map encM := by rw [List.take_of_length_le (by omega), List.map_map]; rfl
    rw [e9] at q3
    (simp (disch := first | decide | omega | (simp only [nx]; first | done | omega)) only [go_sem, q0, q3, q4, b1, hro]; (repeat with_reducible refine aI ?_))
    refine DCalls.of_pure (refSort_d own _ (by rw [List.length_map]; exact hl)) ?_
    (simp (disch := first | decide | omega | (simp only [nx]; first | done | omega)) only [go_sem]; (repeat with_reducible refine aI ?_))
    refine DCalls.of_pure (rnames_d .no _ (Nat.le_trans (lineM_len _) (by rw [List.length_map]; exact hl))) ?_
    rw [sort_marks]
    (simp (disch := first | decide | omega | (simp only [nx]; first | done | omega)) only [go_sem]; (repeat with_reducible refine aI ?_))
    refine ⟨?_, (by (repeat' first | assumption | exact St.Sub.refl _ | exact RowOk.sub (by assumption) (by assumption) | refine St.Sub.trans ?_ (RowOk.sub (by assumption) (by assumption)) | refine St.Sub.add ?_ ?_ _ | refine St.Sub.set ?_ ?_ ?_ _ | refine St.Sub.keep ?_ ?_ | refine St.WF.leave ?_ _ | refine St.WF.add ?_ _ | refine St.WF.set ?_ ?_ _ | refine St.WF.grow ?_ _ _ _ | refine St.WF.keep ?_ ?_ | (first | omega | (simp only [RowOk.lo, nx]; first | done | omega))))⟩
    simp only [D.frz, frz_Hs]
end
end Go.Proofs.Ytonncfminojejaa

namespace Go.Proofs.Ytonncfminojejaa
open Go.RowKit
theorem cells_encB (l : List UInt8) : (encB l).cells = [.sl .no (l.map bD)] := rfl
theorem frz_encB (l : List UInt8) : (encB l).frz = encB l := by simp only [encB, D.frz, frz_bB]
theorem ba_toList (l : List UInt8) : (ByteArray.mk l.toArray).toList = l := by simp
section
set_option maxRecDepth 200000
set_option maxHeartbeats 8000000
theorem same23_d (own own2 : Own) (a b : List (List UInt8)) (ha : a.length ≤ 1000000) : DPure Try.prog 29 [.sl own (a.map encB), .sl own2 (b.map encB)] (.v (.bool (decide (a = b)))) := by
  refine dpure_of_dwp mixed Try.func29 rfl (fun _ _ => by kernel_rfl) (rs := [.tmp 4]) rfl (by kernel_rfl) trivial (fun S hS => ?_)
  by_cases hl : a.length = b.length
  · have b0 : ((a.length : Int) != (b.length : Int)) = false := by simp [hl]
    (simp (disch := first | decide | omega | (simp only [nx]; first | done | omega)) only [go_sem, b0]; (repeat with_reducible refine aI ?_))
    (refine dloop_st (fun t => List.contains [4, 5, 11, 12, 13, 14, 15, 16, 17, 18, 19, 20, 21, 22, 23, 24, 25, 26, 27] t) (by kernel_rfl) ?_ (a.length) (fun i f => i ≤ a.length ∧ f 5 = .v (.int .i64 (i : Nat)) ∧ (∀ j, j < i → a[j]? = b[j]?)) ?_ ?_; (exact (by (repeat' first | assumption | refine St.WF.leave ?_ _ | refine St.WF.add ?_ _ | refine St.WF.set ?_ ?_ _ | refine St.WF.grow ?_ _ _ _ | refine St.WF.keep ?_ ?_ | (first | omega | (simp only [RowOk.lo, nx]; first | done | omega))))); (exact ⟨(by omega), (by (first | (simp (disch := first | decide | omega | (simp only [nx]; first | done | omega)) only [go_sem]; first | done | rfl) | rfl)), (fun j h => by omega)⟩); intro i g tn hn hT hg hI; obtain ⟨le, q5, hs⟩ := hI; have q0 := hg 0 rfl; have q1 := hg 1 rfl; simp (disch := first | decide | omega | (simp only [nx]; first | done | omega)) only [go_sem] at q0 q1; clear hg; have hn' := hn; try simp only [add_next, set_next, grow_next, leave_next, drop_next] at hn')
    by_cases hlt : i < a.length
    · have b1 : decide ((i : Int) < (a.length : Int)) = true := by simp; omega
      have w1 : IntKind.i64.wrap ((i : Int) + 1) = ((i + 1 : Nat) : Int) := IntWalk.i64_in _ ⟨by omega, by omega⟩
      have hlt' : i < b.length := by omega
      (simp (disch := first | decide | omega | (simp only [nx]; first | done | omega)) only [go_sem, q0, q1, q5, b1]; (repeat with_reducible refine aI ?_))
      refine ddraw_mk 11 (by kernel_rfl) ?_
      have ca := cells_encB a[i]
      have cb := cells_encB b[i]
      (simp (disch := first | decide | omega | (simp only [nx]; first | done | omega)) only [go_sem, q0, q1, q5, hlt, hlt', ca, cb, bytesD_map]; (repeat with_reducible refine aI ?_))
      by_cases he : a[i] = b[i]
      · have b2 : (!((ByteArray.mk a[i].toArray).toList == (ByteArray.mk b[i].toArray).toList)) = false := by rw [ba_toList, ba_toList, he]; simp
        (simp (disch := first | decide | omega | (simp only [nx]; first | done | omega)) only [go_sem, b2, q5, w1]; (repeat with_reducible refine aI ?_))
        (refine ⟨by omega, (by (repeat' first | assumption | exact St.Sub.refl _ | exact RowOk.sub (by assumption) (by assumption) | refine St.Sub.trans ?_ (RowOk.sub (by assumption) (by assumption)) | refine St.Sub.add ?_ ?_ _ | refine St.Sub.set ?_ ?_ ?_ _ | refine St.Sub.keep ?_ ?_ | refine St.WF.leave ?_ _ | refine St.WF.add ?_ _ | refine St.WF.set ?_ ?_ _ | refine St.WF.grow ?_ _ _ _ | refine St.WF.keep ?_ ?_ | (first | omega | (simp only [RowOk.lo, nx]; first | done | omega)))), ?_⟩; refine ⟨by omega, ?_, ?_⟩; all_goals (try (first | (simp (disch := first | decide | omega | (simp only [nx]; first | done | omega)) only [go_sem, w1]; first | done | rfl) | rfl)))
        intro j hj
        by_cases e : j = i
        · subst e; rw [List.getElem?_eq_getElem hlt, List.getElem?_eq_getElem hlt', he]
        · exact hs j (by omega)
      · have b2 : (!((ByteArray.mk a[i].toArray).toList == (ByteArray.mk b[i].toArray).toList)) = true := by rw [ba_toList, ba_toList]; simp [he]
        (simp (disch := first | decide | omega | (simp only [nx]; first | done | omega)) only [go_sem, b2]; (repeat with_reducible refine aI ?_))
        refine ⟨?_, (by (repeat' first | assumption | exact St.Sub.refl _ | exact RowOk.sub (by assumption) (by assumption) | refine St.Sub.trans ?_ (RowOk.sub (by assumption) (by assumption)) | refine St.Sub.add ?_ ?_ _ | refine St.Sub.set ?_ ?_ ?_ _ | refine St.Sub.keep ?_ ?_ | refine St.WF.leave ?_ _ | refine St.WF.add ?_ _ | refine St.WF.set ?_ ?_ _ | refine St.WF.grow ?_ _ _ _ | refine St.WF.keep ?_ ?_ | (first | omega | (simp only [RowOk.lo, nx]; first | done | omega))))⟩
        have : a ≠ b := fun h => he (by subst h; rfl)
        simp [D.frz, this]
    · have b1 : decide ((i : Int) < (a.length : Int)) = false := by simp; omega
      (simp (disch := first | decide | omega | (simp only [nx]; first | done | omega)) only [go_sem, q0, q5, b1]; (repeat with_reducible refine aI ?_))
      refine ⟨?_, (by (repeat' first | assumption | exact St.Sub.refl _ | exact RowOk.sub (by assumption) (by assumption) | refine St.Sub.trans ?_ (RowOk.sub (by assumption) (by assumption)) | refine St.Sub.add ?_ ?_ _ | refine St.Sub.set ?_ ?_ ?_ _ | refine St.Sub.keep ?_ ?_ | refine St.WF.leave ?_ _ | refine St.WF.add ?_ _ | refine St.WF.set ?_ ?_ _ | refine St.WF.grow ?_ _ _ _ | refine St.WF.keep ?_ ?_ | (first | omega | (simp only [RowOk.lo, nx]; first | done | omega))))⟩
      have : a = b := List.ext_getElem? fun j => by
        by_cases hj : j < i
        · exact hs j hj
        · rw [List.getElem?_eq_none (by omega), List.getElem?_eq_none (by omega)]
      simp [D.frz, this]
  · have b0 : ((a.length : Int) != (b.length : Int)) = true := by simp; omega
    (simp (disch := first | decide | omega | (simp only [nx]; first | done | omega)) only [go_sem, b0]; (repeat with_reducible refine aI ?_))
    refine ⟨?_, (by (repeat' first | assumption | exact St.Sub.refl _ | exact RowOk.sub (by assumption) (by assumption) | refine St.Sub.trans ?_ (RowOk.sub (by assumption) (by assumption)) | refine St.Sub.add ?_ ?_ _ | refine St.Sub.set ?_ ?_ ?_ _ | refine St.Sub.keep ?_ ?_ | refine St.WF.leave ?_ _ | refine St.WF.add ?_ _ | refine St.WF.set ?_ ?_ _ | refine St.WF.grow ?_ _ _ _ | refine St.WF.keep ?_ ?_ | (first | omega | (simp only [RowOk.lo, nx]; first | done | omega))))⟩
    have : a ≠ b := fun h => hl (by rw [h])
    simp [D.frz, this]
end
end Go.Proofs.Ytonncfminojejaa

namespace Go.Proofs.Ytonncfminojejaa
open Go.RowKit
section
set_option maxRecDepth 200000
set_option maxHeartbeats 8000000
theorem bin_beqW {x y : Operand} (a b : Bool) : dbin Try.prog .eql 4 x y (.v (.bool a)) (.v (.bool b)) = some (True, .v (.bool (a == b))) := by cases a <;> cases b <;> kernel_rfl
end
end Go.Proofs.Ytonncfminojejaa
