/- Texts of a proof, part 5. Conditions: none. -/
import Derived.Test.YtonncfminojejaaO4
import Derived.Shelf.SlSortCmp.WholeK
import Derived.Lib.QuietBelow
import Derived.Ground.SlsfProg
import Derived.Test.YtonncfminojejaaProg
set_option linter.unusedVariables false
set_option linter.unusedSimpArgs false
namespace Go.Proofs.Ytonncfminojejaa
open Go.RowKit Go.Sort Go.Shelf
section
variable {P : Program} {base : Nat} {S : St} {η : Names} {w : World}
theorem goes_ahead (h : Mem P base S η w) : ∀ n, Goes P base S η w S η (Sort.ahead w n)
  | 0 => Goes.refl h
  | n + 1 => by
    have := goes_ahead h n
    rw [← ahead_drew]
    exact this.trans (goes_drew this.mem)
theorem goes_grow (h : Mem P base S η w) : ∀ os : List Obj, Goes P base S η w S η (grow w os.toArray) := by
  intro os
  induction os generalizing w with
  | nil => simpa using Goes.refl h
  | cons o os ih =>
    have h1 := goes_new h o
    have := h1.trans (ih h1.mem)
    rw [alloc_eq_grow, grow_grow] at this
    simpa using this
theorem mapBlock_setRow {w : World} {b : Nat} {vs : List Value} {t : TypeId} {fr : Nat × Nat} (hb : w.heap[b]? = some (.cells vs.toArray t fr)) (f : Array Value → Array Value) : mapBlock w b f = w.setRow b (f vs.toArray) := by
  unfold mapBlock World.setRow
  congr 1
  apply Array.ext_getElem?
  intro k
  simp only [Array.getElem?_modify]
  by_cases hk : b = k
  · subst hk
    simp only [if_true, hb, Option.map_some, onCells]
  · simp [hk]
theorem putCells_list {off : Nat} {F vs : List Value} (h : off + F.length ≤ vs.length) : putCells id off F.toArray vs.toArray = (vs.take off ++ F ++ vs.drop (off + F.length)).toArray := by
  apply Array.ext_getElem?
  intro k
  simp only [putCells, Array.getElem?_mapIdx, List.getElem?_toArray, List.size_toArray, id_eq]
  by_cases h1 : k < off
  · rw [List.append_assoc, List.getElem?_append_left (by simp; omega), List.getElem?_take_of_lt h1]
    cases vs[k]? with
    | none => rfl
    | some y => rw [Option.map_some, if_neg (by omega)]
  · by_cases h2 : k < off + F.length
    · rw [List.getElem?_append_left (by simp; omega), List.getElem?_append_right (by simp; omega), List.length_take, Nat.min_eq_left (by omega), List.getElem?_eq_getElem (by omega : k - off < F.length), List.getElem?_eq_getElem (by omega : k < vs.length), Option.map_some, if_pos (by omega)]
      have h3 : k - off < F.toArray.size := by simp; omega
      rw [getElem!_pos F.toArray (k - off) h3]
      simp
    · rw [List.getElem?_append_right (by simp; omega), List.getElem?_drop]
      simp only [List.length_append, List.length_take]
      rw [show off + F.length + (k - (min off vs.length + F.length)) = k by omega]
      cases vs[k]? with
      | none => rfl
      | some y => rw [Option.map_some, if_neg (by omega)]
variable {α : Type} [Inhabited α]
theorem flatMap_get {enc : α → List Value} {z : Nat} (hz : ∀ x, (enc x).length = z) : ∀ (l : List α) (t : Nat), t < l.length * z → (l.flatMap enc)[t]? = (enc (l.getD (t / z) default))[t % z]?
  | [], t, h => by simp at h
  | x :: l, t, h => by
    have z0 : 0 < z := by rcases Nat.eq_zero_or_pos z with h' | h'; · subst h'; simp at h
                          · exact h'
    rw [List.flatMap_cons]
    by_cases h1 : t < z
    · rw [List.getElem?_append_left (by rw [hz]; exact h1), Nat.div_eq_of_lt h1, Nat.mod_eq_of_lt h1]
      rfl
    · obtain ⟨u, rfl⟩ : ∃ u, t = u + z := ⟨t - z, by omega⟩
      rw [List.getElem?_append_right (by rw [hz]; omega), hz, Nat.add_sub_cancel, flatMap_get hz l u (by simp only [List.length_cons, Nat.add_mul, Nat.one_mul] at h; omega), Nat.add_mod_right, Nat.add_div_right _ z0]
      rfl
theorem flatMap_len {α : Type} {enc : α → List Value} {z : Nat} (hz : ∀ x, (enc x).length = z) : ∀ l : List α, (l.flatMap enc).length = l.length * z
  | [] => by simp
  | x :: l => by rw [List.flatMap_cons, List.length_append, hz, flatMap_len hz l, List.length_cons, Nat.add_mul, Nat.one_mul, Nat.add_comm]
theorem flatK_list {enc : α → List Value} {z : Nat} (hz : ∀ x, (enc x).length = z) (l : List α) : flatK enc z l.toArray = (l.flatMap enc).toArray := by
  apply Array.ext_getElem?
  intro t
  by_cases h : t < l.length * z
  · have z0 : 0 < z := by rcases Nat.eq_zero_or_pos z with h' | h'; · subst h'; simp at h
                          · exact h'
    have hm : t % z < z := Nat.mod_lt _ z0
    have hd : t / z < l.length := Nat.div_lt_of_lt_mul (by rw [Nat.mul_comm]; exact h)
    rw [List.getElem?_toArray (xs := l.flatMap enc), flatMap_get hz l t h]
    simp only [flatK, Array.getElem?_map, Array.getElem?_range, List.size_toArray, if_pos h, Option.map_some]
    rw [getElem!_pos l.toArray (t / z) (by simpa using hd), List.getD_eq_getElem?_getD, List.getElem?_eq_getElem hd]
    simp only [Option.getD_some, List.getElem_toArray]
    rw [getElem!_pos _ (t % z) (by rw [hz]; exact hm), List.getElem?_eq_getElem (by rw [hz]; exact hm)]
  · rw [Array.getElem?_eq_none (by rw [size_flatK]; simpa using Nat.le_of_not_lt h), List.getElem?_toArray, List.getElem?_eq_none (by rw [flatMap_len hz]; omega)]
theorem repL_vs {X : Nat → Nat → Prop} : ∀ {us vs : List Value}, RepL P w η X (us.map D.v) vs → vs = us
  | [], vs, h => by simpa only [List.map_nil, RepL] using h
  | u :: us, vs, h => by
    simp only [List.map_cons, RepL, Rep] at h
    obtain ⟨x, xs, rfl, rfl, h3⟩ := h
    rw [repL_vs h3]
theorem repL_plain {X : Nat → Nat → Prop} : ∀ us : List Value, RepL P w η X (us.map D.v) us
  | [] => by simp only [List.map_nil, RepL]
  | u :: us => by simp only [List.map_cons, RepL, Rep]; exact ⟨u, us, rfl, rfl, repL_plain us⟩
theorem repL_split {X : Nat → Nat → Prop} : ∀ {l m : List D} {vs : List Value}, RepL P w η X (l ++ m) vs → RepL P w η X l (vs.take l.length) ∧ RepL P w η X m (vs.drop l.length)
  | [], m, vs, h => by simpa only [List.nil_append, List.length_nil, List.take_zero, List.drop_zero, RepL, true_and] using h
  | d :: l, m, vs, h => by
    simp only [List.cons_append, RepL] at h
    obtain ⟨x, xs, rfl, h2, h3⟩ := h
    have := repL_split h3
    simp only [List.length_cons, List.take_succ_cons, List.drop_succ_cons, RepL]
    exact ⟨⟨x, _, rfl, h2, this.1⟩, this.2⟩
theorem flat_enc {α : Type} {enc : α → List Value} {e : α → D} (he : ∀ x, (e x).cells = (enc x).map D.v) : ∀ l : List α, flat (l.map e) = (l.flatMap enc).map D.v
  | [] => rfl
  | x :: l => by
    have := flat_enc he l
    simp only [flat] at this ⊢
    rw [List.map_cons, List.flatMap_cons, List.flatMap_cons, List.map_append, this, he]
theorem sorted_goes (hM : Mem P base S η w) {enc : α → List Value} {z : Nat} (hz : ∀ x, (enc x).length = z) (h1 : ∀ x, ∀ v ∈ enc x, v.oneCell' = true) {e : α → D} (he : ∀ x, (e x).cells = (enc x).map D.v) {k b : Nat} {t : TypeId} {A B : List D} {l l' : List α} (hl : l'.length = l.length)
    (hk : S.ob k = some (.box t (A ++ flat (l.map e) ++ B))) (hb : η k = some (some b)) (n : Nat) (os : Array Obj) :
    HoldsK enc z w b A.length l.toArray ∧ Goes P base S η w (S.set k (.box t (A ++ flat (l'.map e) ++ B))) η (sortWorldK enc z w b A.length n l'.toArray os) := by
  obtain ⟨vs, g1, g2, g3⟩ := hM.box k t _ b hk hb
  rw [flat_enc he, List.append_assoc] at g2
  obtain ⟨s1, s2⟩ := repL_split g2
  obtain ⟨s3, s4⟩ := repL_split s2
  rw [List.length_map, flatMap_len hz] at s3 s4
  have hF := repL_vs s3
  have hlen := g2.length
  simp only [List.length_append, List.length_map, flatMap_len hz] at hlen
  have hA : (vs.take A.length).length = A.length := by rw [List.length_take]; omega
  constructor
  · unfold HoldsK
    rw [flatK_list hz]
    intro i hi
    have hi' : i < l.length * z := by simpa [flatMap_len hz] using hi
    have hget : vs[A.length + i]? = (l.flatMap enc)[i]? := by
      rw [← hF, List.getElem?_take_of_lt hi', List.getElem?_drop]
    constructor
    · simp only [World.cell?, g1, Option.isSome_none, Bool.false_eq_true, if_false, List.getElem?_toArray, id_eq]
      rw [hget, getElem!_pos _ i hi, List.getElem?_eq_getElem (by simpa using hi)]
      simp
    · simp [World.frozen?, g1]
  · have hfit : A.length + (l'.flatMap enc).length ≤ vs.length := by rw [flatMap_len hz, hl]; omega
    have e1 : sortWorldK enc z w b A.length n l'.toArray os = grow (Sort.ahead (w.setRow b (vs.take A.length ++ l'.flatMap enc ++ vs.drop (A.length + (l'.flatMap enc).length)).toArray) n) os := by
      unfold sortWorldK putRowK
      rw [flatK_list hz]
      have : putRow id (Sort.ahead w n) b A.length (l'.flatMap enc).toArray = Sort.ahead (putRow id w b A.length (l'.flatMap enc).toArray) n := rfl
      rw [this]
      unfold putRow
      rw [mapBlock_setRow g1, putCells_list hfit]
    rw [e1]
    have G := goes_set hM (cs' := A ++ flat (l'.map e) ++ B) (vs' := vs.take A.length ++ l'.flatMap enc ++ vs.drop (A.length + (l'.flatMap enc).length)) hk hb (by rw [flat_enc he, flat_enc he]; simp [flatMap_len hz, hl]) (by
        rw [flat_enc he]
        refine RepL.append (RepL.append s1 (repL_plain _)) ?_
        rw [flatMap_len hz, hl]
        rw [List.drop_drop] at s4
        exact s4) (fun x hx => by
        simp only [List.mem_append, List.mem_flatMap] at hx
        rcases hx with (hx | ⟨y, _, hx⟩) | hx
        · exact g3 x (List.mem_of_mem_take hx)
        · exact h1 y x hx
        · exact g3 x (List.mem_of_mem_drop hx))
    have G2 := G.trans (goes_ahead G.mem n)
    exact G2.trans (by simpa using goes_grow G2.mem os.toList)
end
end Go.Proofs.Ytonncfminojejaa

namespace Go.Proofs.Ytonncfminojejaa
open Go.RowKit Go.Sort Go.Shelf
section
variable {P : Program} {ρ : Ren} {S : St} {α : Type} [Inhabited α]
theorem cmp_lays {α : Type} (hmo : mo = true) {enc : α → List Value} (h1 : ∀ x, ∀ v ∈ enc x, v.oneCell' = true) {e : α → D} (he : ∀ x, e x = .agg ((enc x).map D.v)) {cf : α → α → Int} {g : FuncId}
    (eg : ∀ args w, (callFunc g args).run P w = .ok (.enter g args) w) (hcmp : ∀ x y, DPure P g [e x, e y] (.v (.int .i64 (cf x y)))) {W : World} (hg : GlobOk W.heap.size W) (x y : α) :
    Calls P g (#[.agg (enc x).toArray, .agg (enc y).toArray] ++ #[]) W fun e w' => e = .returned (.int .i64 (cf x y)) ∧ ∃ q os', w' = grow (W.drewN q) os' := by
  have hr : RepL P W (fun _ => none) (Fix P St.nil fun _ => none) [e x, e y] [.agg (enc x).toArray, .agg (enc y).toArray] := by
    rw [he, he]
    simp only [RepL, Rep]
    exact ⟨_, _, rfl, ⟨_, rfl, repL_plain _, h1 x⟩, _, _, rfl, ⟨_, rfl, repL_plain _, h1 y⟩, rfl⟩
  rw [Array.append_empty]
  rcases hcmp x y St.nil W.heap.size _ W _ (mem_nil W hg) hr with ⟨_, k⟩ | ⟨d, S', η', u, w', k, _⟩
  · refine k.mono fun _ w' ⟨d, S', η', u, ⟨h1, _⟩, h2, h3, h4⟩ => ?_
    subst h1
    simp only [Rep] at h3
    subst h3
    refine ⟨h2, ?_⟩
    obtain ⟨p, hp⟩ := regrown_of_below h4.below
    have hd := h4.drawn hmo
    have hd2 : w'.drawn = p.d := by rw [hp]; rfl
    refine ⟨p.d - W.drawn, p.os, ?_⟩
    rw [hp]
    congr 1
    unfold redrawn World.drewN
    rw [show W.drawn + (p.d - W.drawn) = p.d by omega]
  · rw [eg] at k
    injection k with k
    cases k
theorem perm_of_permIn {d d' : Array α} (h : PermIn 0 d.size d d') : d'.toList.Perm d.toList := by
  obtain ⟨hs, _, hp⟩ := h
  have e1 : d.extract 0 d.size = d := by simp
  have e2 : d'.extract 0 d.size = d' := by rw [← hs]; simp
  rwa [e1, e2] at hp
theorem pairwise_of_sortedIn {lt : α → α → Bool} {n : Nat} {d : Array α} (hn : n = d.size) (h : SortedIn lt 0 n d) : d.toList.Pairwise fun a b => lt b a = false := by
  rw [List.pairwise_iff_getElem]
  intro i j hi hj hij
  have := h i j (Nat.zero_le _) hij (by rw [hn]; simpa using hj)
  rw [getElem!_pos d i (by simpa using hi), getElem!_pos d j (by simpa using hj)] at this
  simpa using this
theorem dsort (hmo : mo = true) (L : SlLaysF0.n6 P ρ) {z : Nat} (aE : ∀ w, (isAgg (ρ.t 24)).run P w = .ok true w) (zE : ∀ w, (Go.sizeOf (ρ.t 24)).run P w = .ok z w) (hent : ∀ vs w, (callFunc (ρ.f 6) vs).run P w = .ok (.enter (ρ.f 6) vs) w)
    {enc : α → List Value} (hz : ∀ x, (enc x).length = z) (h1 : ∀ x, ∀ v ∈ enc x, v.oneCell' = true) {e : α → D} (he : ∀ x, e x = .agg ((enc x).map D.v)) {cf : α → α → Int} (hO : SWO (ltOf cf)) {g : FuncId}
    (eg : ∀ args w, (callFunc g args).run P w = .ok (.enter g args) w) (hcmp : ∀ x y, DPure P g [e x, e y] (.v (.int .i64 (cf x y)))) {k c : Nat} {t : TypeId} {A B : List D} {l : List α} (hk : S.ob k = some (.box t (A ++ flat (l.map e) ++ B))) (hsz : l.length ≤ 1000000) :
    DCalls P (ρ.f 6) [.win k A.length l.length c, .fn (.func g) [] []] S (fun d T => d = .tup [] ∧ ∃ l' : List α, l'.Perm l ∧ l'.Pairwise (fun a b => ltOf cf b a = false) ∧ T = S.set k (.box t (A ++ flat (l'.map e) ++ B))) := by
  intro base η w vs hM hr
  simp only [RepL] at hr
  obtain ⟨x, xs, rfl, hx, y, ys, rfl, hy, rfl⟩ := hr
  obtain ⟨b, vs0, rfl, hb, hheap, -, -, -, -⟩ := win_live hM hk hx
  simp only [Rep, RepL] at hy
  obtain ⟨us, vs1, rfl, rfl, rfl⟩ := hy
  have hcells : ∀ x, (e x).cells = (enc x).map D.v := fun x => by rw [he]; rfl
  refine .inl ⟨hent _ _, ?_⟩
  have hblk := (hM.in_ k b hb).2
  have H := (sorted_goes hM hz h1 hcells (l' := l) rfl hk hb 0 #[]).1
  have hC : CmpLays P g #[] enc z cf b A.length l.toArray.size w := fun m os dk hdk x y => by
    have G := (sorted_goes hM hz h1 hcells (l' := dk.toList) (by simpa using hdk) hk hb m os).2
    rw [Array.toArray_toList] at G
    exact cmp_lays hmo h1 he eg hcmp (fun p hp => ⟨Nat.lt_of_lt_of_le (G.mem.glob p hp).1 G.mem.base_, (G.mem.glob p hp).2⟩) x y
  have key := AnyQ.slices_SortFunc L z aE zE enc hz h1 cf hO g #[] b A.length c l.toArray w eg hC H hblk (by simp; omega)
  rw [List.size_toArray] at key
  refine key.mono ?_
  rintro e' w' ⟨rfl, d', n, os, hp, hs, rfl⟩
  have hp' := perm_of_permIn (d := l.toArray) (by simpa using hp)
  have hl' : d'.toList.length = l.length := by simpa using hp'.length_eq
  have G := (sorted_goes hM hz h1 hcells (l' := d'.toList) hl' hk hb n os).2
  rw [Array.toArray_toList] at G
  exact ⟨.tup [], _, η, .tuple #[], ⟨rfl, d'.toList, by simpa using hp', pairwise_of_sortedIn (by simpa using hl'.symm) hs, rfl⟩, rfl, by simp only [Rep, RepL]; exact ⟨[], rfl, rfl⟩, G⟩
end
end Go.Proofs.Ytonncfminojejaa

namespace Go.Proofs.Ytonncfminojejaa
open Go.RowKit Go.Sort Go.Shelf
theorem bitsLen_d {P : Program} {ρ : Ren} (L : SlLaysF0.n6 P ρ) (hent : ∀ vs w, (callFunc (ρ.f 15) vs).run P w = .ok (.enter (ρ.f 15) vs) w) (n : Nat) (hn : n < 4611686018427387904) : DPure P (ρ.f 15) [.v (.int .u64 (n : Int))] (.v (.int .i64 (Lib.bitLen n : Nat))) := fun S base η w vs hM hr => by
  simp only [RepL, Rep] at hr
  obtain ⟨x, xs, rfl, rfl, rfl⟩ := hr
  have h := Any.bits_Len (SlLaysF0.n15.bits (P := P) (ρ := ρ) { L with }) (n : Int) w (by omega) (by omega)
  rw [Int.toNat_natCast] at h
  exact .inl ⟨hent _ _, h.mono fun _ _ ⟨h1, h2⟩ => by subst h2; exact ⟨_, S, η, _, ⟨rfl, rfl⟩, h1, by simp only [Rep], Goes.refl hM⟩⟩
section
set_option maxRecDepth 200000
set_option maxHeartbeats 4000000
variable {S : St}
theorem ob_self {S : St} {k : Nat} {o : Ob} (h : S.ob k = some o) : S.set k o = S := by
  cases S with
  | mk n ob =>
    simp only [St.set]
    congr 1
    funext j
    by_cases e : j = k
    · subst e; rw [if_pos rfl]; exact h.symm
    · rw [if_neg e]
end
end Go.Proofs.Ytonncfminojejaa

namespace Go.Proofs.Ytonncfminojejaa
open Go.ChangeShapes Go.WideShapes Go.ChangeAt Go.RowKit Go.Deep Go.Joins
section
set_option maxRecDepth 20000
variable {H : Type} {enc : TypeId × Value → H} {w : World}
theorem hash_of {fuel : Nat} {cs : List Value} {x : DataW H × List MemPlace} (h : DataW.trod enc Try.prog w 0 (fun _ => true) true fuel 44 cs = some x) : ∃ m : H32, cs = m.1.map bV := by
  obtain ⟨l, h1, h2⟩ := open_u8array Try.underlying44 Try.underlying5 (by kernel_rfl) (by kernel_rfl) h
  exact ⟨⟨l, h1⟩, h2⟩
theorem bV_one (h : H32) : ∀ v ∈ h.1.map bV, v.oneCell' = true := fun v hv => by
  obtain ⟨b, _, rfl⟩ := List.mem_map.1 hv
  rfl
theorem encH_vs (m : H32) : encH m = .agg ((m.1.map bV).map D.v) := by
  simp only [encH, List.map_map]
  rfl
theorem rep_hash (m : H32) (η : Names) (X : Nat → Nat → Prop) : Rep Try.prog w η X (encH m) (.agg (m.1.map bV).toArray) := by
  rw [encH_vs]
  simp only [Rep]
  exact ⟨_, rfl, repL_plain _, bV_one m⟩
theorem open_hash {v : Value} {d : DataW H} {p : List MemPlace} {W : World} {base : Nat} (h : DataW.Trod enc Try.prog w 0 (fun _ => true) true 44 v d p) (hk : Value.okWide Try.prog W .any base 44 v) :
    ∃ m : H32, ∀ (η : Names) (X : Nat → Nat → Prop), Rep Try.prog w η X (encH m) v := by
  have : ∃ cs : Array Value, v = .agg cs := by
    simp only [Value.okWide, Try.underlying44] at hk
    obtain ⟨cs, h1, _⟩ := hk
    exact ⟨cs, h1⟩
  obtain ⟨cs, rfl⟩ := this
  obtain ⟨fuel, h⟩ := h
  obtain ⟨m, hm⟩ := hash_of h
  refine ⟨m, fun η X => ?_⟩
  have h3 : cs.toList = m.1.map bV := by simpa [Value.cells] using hm
  have := rep_hash (w := w) m η X
  rw [← h3] at this
  simpa using this
end
end Go.Proofs.Ytonncfminojejaa

namespace Go.Proofs.Ytonncfminojejaa
open Go.ChangeShapes Go.WideShapes Go.ChangeAt Go.RowKit Go.Deep Go.Joins
section
variable {H : Type} {enc : TypeId × Value → H} {w : World}
set_option maxRecDepth 20000 in
theorem open_u8l {v : Value} {d : DataW H} {p : List MemPlace} {W : World} {base : Nat} (h : DataW.Trod enc Try.prog w 0 (fun _ => true) true 29 v d p) (hs : Sized Try.prog 29 d) (hk : Value.okWide Try.prog W .any base 29 v) :
    ∃ l : List UInt8, (∀ a ∈ l, True) ∧ l.length ≤ 140737488351232 ∧ ∀ (η : Names) (X : Nat → Nat → Prop), (∀ b i, X b i) → Rep Try.prog w η X (.sl .no (l.map bD)) v :=
  open_cells (P := Try.prog) (fun n : UInt8 => Value.int .u8 (n.toNat : Int)) (fun _ => rfl) (bytes := 1) Try.underlying29 (by kernel_rfl) (by kernel_rfl) (by omega) (fun a => True) (fun fuel u x hx _ => by
    obtain ⟨n, e, _, hw⟩ := DataW.trod_int Try.underlying5 hx
    have hb := bounds_u8 hw
    injection e with e _
    refine ⟨UInt8.ofNat n.toNat, trivial, ?_⟩
    have e2 : (((UInt8.ofNat n.toNat).toNat : Nat) : Int) = n := by
      rw [UInt8.toNat_ofNat_of_lt' (by show n.toNat < 256; omega)]; omega
    rw [e2]; exact e) h hs hk
end
end Go.Proofs.Ytonncfminojejaa

namespace Go.Proofs.Ytonncfminojejaa
open Go.RowKit
def hk (h : H32) : Int := ((valH h : Nat) : Int)
theorem hk_inj {a b : H32} (h : hk a = hk b) : a = b := valH_inj (by unfold hk at h; omega)
def ltH (a b : H32) : Bool := decide (hk a < hk b)
theorem ltOf_cmpH : ltOf cmpH = ltH := by
  funext a b
  unfold ltOf ltH
  rw [cmpH_val]
  congr 1
  exact propext (cmpI_neg _ _)
theorem swo_cmpH : Go.Sort.SWO (ltOf cmpH) := by
  rw [ltOf_cmpH]
  exact ⟨fun x => by simp [ltH], fun x y z h1 h2 => by simp [ltH] at *; omega, fun x y z h1 h2 => by simp [ltH] at *; omega⟩
def AscH (l : List H32) : Prop := l.Pairwise fun a b => hk a < hk b
theorem ascH_ext : ∀ {a b : List H32}, AscH a → AscH b → (∀ m, m ∈ a ↔ m ∈ b) → a = b
  | [], [], _, _, _ => rfl
  | [], y :: b, _, _, h => absurd ((h y).2 (List.mem_cons_self ..)) (by simp)
  | x :: a, [], _, _, h => absurd ((h x).1 (List.mem_cons_self ..)) (by simp)
  | x :: a, y :: b, ha, hb, h => by
    obtain ⟨a1, a2⟩ := List.pairwise_cons.1 ha
    obtain ⟨b1, b2⟩ := List.pairwise_cons.1 hb
    have hxy : x = y := by
      rcases List.mem_cons.1 ((h x).1 (List.mem_cons_self ..)) with e | e
      · exact e
      · rcases List.mem_cons.1 ((h y).2 (List.mem_cons_self ..)) with e' | e'
        · exact e'.symm
        · have := a1 y e'; have := b1 x e; omega
    subst hxy
    congr 1
    refine ascH_ext a2 b2 fun m => ⟨fun hm => ?_, fun hm => ?_⟩
    · rcases List.mem_cons.1 ((h m).1 (List.mem_cons_of_mem _ hm)) with e | e
      · subst e; have := a1 m hm; omega
      · exact e
    · rcases List.mem_cons.1 ((h m).2 (List.mem_cons_of_mem _ hm)) with e | e
      · subst e; have := b1 m hm; omega
      · exact e
def pack1H (acc : List H32) (x : H32) : List H32 := if acc.getLast? = some x then acc else acc ++ [x]
def packH (l : List H32) : List H32 := l.foldl pack1H []
theorem packH_snoc (l : List H32) (x : H32) : packH (l ++ [x]) = pack1H (packH l) x := by simp [packH]
theorem packH_last (l : List H32) : (packH l).getLast? = l.getLast? := by
  rcases List.eq_nil_or_concat l with rfl | ⟨l, x, rfl⟩
  · rfl
  · rw [List.concat_eq_append, packH_snoc, List.getLast?_append]
    unfold pack1H
    split
    · rename_i h; rw [h]; rfl
    · simp
theorem packH_take (l : List H32) (i : Nat) (h : i + 1 < l.length) : packH (l.take (i + 2)) = if l[i] = l[i + 1] then packH (l.take (i + 1)) else packH (l.take (i + 1)) ++ [l[i + 1]] := by
  rw [List.take_succ_eq_append_getElem h, packH_snoc]
  unfold pack1H
  have e : (packH (l.take (i + 1))).getLast? = some l[i] := by
    rw [packH_last, List.take_succ_eq_append_getElem (by omega), List.getLast?_append]
    simp
  rw [e]
  by_cases h2 : l[i] = l[i + 1]
  · rw [if_pos (by rw [h2]), if_pos h2]
  · rw [if_neg (fun h => h2 (Option.some.inj h)), if_neg h2]
theorem packH_len (l : List H32) : (packH l).length ≤ l.length := by
  induction l using rev_ind with
  | h0 => simp [packH]
  | h1 l x ih => ?_
  · rw [packH_snoc]
    unfold pack1H
    split
    · simp; omega
    · simp; omega
theorem packH_mem (l : List H32) (m : H32) : m ∈ packH l ↔ m ∈ l := by
  induction l using rev_ind with
  | h0 => simp [packH]
  | h1 l x ih => ?_
  · rw [packH_snoc, List.mem_append, List.mem_singleton]
    unfold pack1H
    split
    · rename_i h
      have : x ∈ packH l := List.mem_of_getLast? h
      rw [ih]
      constructor
      · exact .inl
      · rintro (h | rfl)
        · exact h
        · exact ih.1 this
    · rw [List.mem_append, List.mem_singleton, ih]
theorem packH_asc (l : List H32) (h : l.Pairwise fun a b => ltH b a = false) : AscH (packH l) := by
  induction l using rev_ind with
  | h0 => exact List.Pairwise.nil
  | h1 l x ih => ?_
  · obtain ⟨h1, _, h3⟩ := List.pairwise_append.1 h
    have ih := ih h1
    rw [packH_snoc]
    unfold pack1H
    split
    · exact ih
    · rename_i hn
      refine List.pairwise_append.2 ⟨ih, List.pairwise_singleton _ _, fun a ha b hb => ?_⟩
      obtain rfl := List.mem_singleton.1 hb
      have h4 := h3 a ((packH_mem l a).1 ha) b (List.mem_singleton.2 rfl)
      have h5 : ¬ hk b < hk a := by simpa [ltH] using h4
      rcases Int.lt_trichotomy (hk a) (hk b) with h6 | h6 | h6
      · exact h6
      · exfalso
        have e := hk_inj h6
        subst e
        obtain ⟨i, hi, hia⟩ := List.getElem_of_mem ha
        have hne : packH l ≠ [] := fun h => by rw [h] at hi; simp at hi
        rcases Nat.lt_or_ge (i + 1) (packH l).length with h7 | h7
        · have hz := (List.pairwise_iff_getElem.1 ih) i ((packH l).length - 1) hi (by omega) (by omega)
          have hlast : (packH l)[(packH l).length - 1] ∈ packH l := List.getElem_mem _
          have := h3 _ ((packH_mem l _).1 hlast) a (List.mem_singleton.2 rfl)
          simp only [ltH, decide_eq_false_iff_not] at this
          rw [hia] at hz
          omega
        · apply hn
          rw [List.getLast?_eq_getElem?, show (packH l).length - 1 = i by omega, List.getElem?_eq_getElem hi, hia]
      · exact absurd h6 h5
def sortH (l : List H32) : List H32 := (lineM (l.map fun h => ((0 : Int), h))).map (·.2)
theorem lineM_zero (l : List H32) : ∀ m ∈ lineM (l.map fun h => ((0 : Int), h)), m.1 = 0 := fun m hm => by
  rw [mem_lineM] at hm
  obtain ⟨h, _, rfl⟩ := List.mem_map.1 hm
  rfl
theorem mem_sortH (l : List H32) (h : H32) : h ∈ sortH l ↔ h ∈ l := by
  unfold sortH
  rw [List.mem_map]
  constructor
  · rintro ⟨m, hm, rfl⟩
    rw [mem_lineM] at hm
    obtain ⟨x, hx, rfl⟩ := List.mem_map.1 hm
    exact hx
  · intro hh
    exact ⟨(0, h), (mem_lineM _ _).2 (List.mem_map.2 ⟨h, hh, rfl⟩), rfl⟩
theorem ascH_sortH (l : List H32) : AscH (sortH l) := by
  have h1 := asc_lineM (l.map fun h => ((0 : Int), h))
  have h2 := lineM_zero l
  unfold AscH sortH
  rw [List.pairwise_map]
  refine (List.Pairwise.imp_of_mem ?_ h1)
  intro a b ha hb hab
  have := h2 a ha
  have := h2 b hb
  unfold key at hab
  unfold hk
  simp_all
theorem sortH_len (l : List H32) : (sortH l).length ≤ l.length := by
  have := lineM_len (l.map fun h => ((0 : Int), h))
  rw [List.length_map] at this
  unfold sortH
  rw [List.length_map]
  exact this
theorem packH_sort {l l' : List H32} (hp : l'.Perm l) (hs : l'.Pairwise fun a b => ltOf cmpH b a = false) : packH l' = sortH l := by
  rw [ltOf_cmpH] at hs
  exact ascH_ext (packH_asc l' hs) (ascH_sortH l) fun m => by rw [packH_mem, mem_sortH, hp.mem_iff]
end Go.Proofs.Ytonncfminojejaa

namespace Go.Proofs.Ytonncfminojejaa
open Go.RowKit
structure DGst where
  n : H32
  b : List UInt8
  lk : List H32
def hasG (gs : List DGst) (h : H32) : Bool := gs.any fun g => decide (g.n = h)
def cutG (h : H32) (g : DGst) : DGst := ⟨g.n, g.b, g.lk.filter (· ≠ h)⟩
def doneG (gs : List DGst) (h : H32) : List DGst := (gs.map (cutG h)).filter fun g => g.lk ≠ []
def outG (gs : List DGst) (h : H32) : List (List UInt8) := ((gs.map (cutG h)).filter fun g => g.lk = []).map (·.b)
def missG (gs : List DGst) : List H32 := (sortH (gs.flatMap (·.lk))).filter fun h => !hasG gs h
theorem ascH_nodup {l : List H32} (h : AscH l) : l.Nodup := List.Pairwise.imp (fun {a b} hab e => by subst e; omega) h
theorem erase_filter {l : List H32} (hl : AscH l) (h : H32) {k : Nat} (hk : k < l.length) (e : l[k] = h) : l.take k ++ l.drop (k + 1) = l.filter (· ≠ h) := by
  have hs : l = l.take k ++ l[k] :: l.drop (k + 1) := by rw [← List.drop_eq_getElem_cons hk, List.take_append_drop]
  have hn := ascH_nodup hl
  rw [hs, List.nodup_append] at hn
  obtain ⟨_, h2, h3⟩ := hn
  obtain ⟨h4, _⟩ := List.nodup_cons.1 h2
  conv => rhs; rw [hs, List.filter_append, List.filter_cons]
  have e1 : (l.take k).filter (· ≠ h) = l.take k := List.filter_eq_self.2 fun x hx => by
    have := h3 x hx l[k] (List.mem_cons_self ..)
    rw [e] at this
    simpa using this
  have e2 : (l.drop (k + 1)).filter (· ≠ h) = l.drop (k + 1) := List.filter_eq_self.2 fun x hx => by
    have : x ≠ h := fun e' => h4 (by rw [e, ← e']; exact hx)
    simpa using this
  rw [e1, e2, if_neg (by simp [e])]
theorem filter_self {l : List H32} {h : H32} (hn : h ∉ l) : l.filter (· ≠ h) = l := List.filter_eq_self.2 fun x hx => by
  have : x ≠ h := fun e => hn (e ▸ hx)
  simpa using this
end Go.Proofs.Ytonncfminojejaa

namespace Go.Proofs.Ytonncfminojejaa
open Go.RowKit
theorem calls_fin {P : Program} {g : FuncId} {args : List D} {S : St} {K : D → St → Prop} (h : DCalls P g args S fun d T => DFinT P S T d K) : DCalls P g args S K := fun base η w vs hM hr => by
  rcases h base η w vs hM hr with ⟨h1, h2⟩ | ⟨d, S', η', v, w', h1, ⟨S1, d1, t1, d', S'', q1, q2, q3, q4, q5, q6⟩, h3, h4⟩
  · refine .inl ⟨h1, h2.mono fun e w' ⟨d, S', η', v, ⟨S1, d1, t1, d', S'', q1, q2, q3, q4, q5, q6⟩, he, h3, h4⟩ => ?_⟩
    obtain ⟨η3, t2, t3⟩ := t1 _ _ _ _ h4.mem h3
    obtain ⟨g1, g2⟩ := goes_fin hM (h4.trans t2) q3 q4 q5
    exact ⟨d', S'', _, v, q6, he, g2 d' v q2 (q1 _ _ _ _ _ t3), g1⟩
  · obtain ⟨η3, t2, t3⟩ := t1 _ _ _ _ h4.mem h3
    obtain ⟨g1, g2⟩ := goes_fin hM (h4.trans t2) q3 q4 q5
    exact .inr ⟨d', S'', _, v, w', h1, q6, g2 d' v q2 (q1 _ _ _ _ _ t3), g1⟩
theorem fin_same {S T : St} (hS : S.WF) {d : D} (hc : d.closed) (hs : S.Sub T) : DFin S T d (fun d' T' => d' = d ∧ T' = S) :=
  ⟨d, S, DLe.refl _, D.all_mono (fun _ h => h.elim) hc, hs.next, Nat.le_refl _, fun k o hk => ⟨hs.ob k o hk, hS.lt hk, fun _ _ _ => .inl hk⟩, rfl, rfl⟩
def cur (l : List DMk) (q : Nat) : List DMk := packM (l.take q) ++ l.drop (packM (l.take q)).length
section
set_option maxRecDepth 200000
set_option maxHeartbeats 4000000
end
end Go.Proofs.Ytonncfminojejaa

namespace Go.Proofs.Ytonncfminojejaa
open Go.RowKit Go.Sort Go.Shelf
instance : Inhabited DMk := ⟨(0, ⟨List.replicate 32 0, rfl⟩)⟩
section
set_option maxRecDepth 200000
set_option maxHeartbeats 4000000
variable {S : St}
end
end Go.Proofs.Ytonncfminojejaa

namespace Go.Proofs.Ytonncfminojejaa
open Go.RowKit
section
variable {P : Program} {f : Fm} {S : St} {K : D → St → Prop}
theorem pfinT_ret3 (t u v : Tmp) (S' : St) (d : D) : DQ.pfin P [.tmp t, .tmp u, .tmp v] S d .ret f S' = PFin S S' (.tup [f t, f u, f v]) d := by
  simp [DQ.pfin, dresL, dres, onVal, one]
theorem pfinT_normal3 (t u v : Tmp) (S' : St) (d : D) : DQ.pfin P [.tmp t, .tmp u, .tmp v] S d .normal f S' = PFin S S' (.tup [f t, f u, f v]) d := by
  simp [DQ.pfin, dresL, dres, onVal, one]
theorem inl_ret3 (t u v : Tmp) (S' : St) : DQ.inl P [.tmp t, .tmp u, .tmp v] K .ret f S' = K (.tup [f t, f u, f v]) S' := by simp [DQ.inl, dresL, dres, onVal, one]
theorem inl_normal3 (t u v : Tmp) (S' : St) : DQ.inl P [.tmp t, .tmp u, .tmp v] K .normal f S' = K (.tup [f t, f u, f v]) S' := by simp [DQ.inl, dresL, dres, onVal, one]
attribute [go_sem] pfinT_ret3 pfinT_normal3 inl_ret3 inl_normal3
end
theorem growM_hit {S : St} {own : Own} {e : TypeId} {n : Nat} : (S.grow own e n).ob S.next = some (.row e n) := by
  cases own <;> simp [St.grow, St.leave, St.add, St.drop]
theorem growM_skip {S : St} {own : Own} {e : TypeId} {n j : Nat} (h1 : j ≠ S.next) (h2 : ∀ g, own = .row g → j ≠ g) : (S.grow own e n).ob j = S.ob j := by
  cases own with
  | row g => simp [St.grow, St.leave, St.add, St.drop, h1, h2 g rfl]
  | no => simp [St.grow, St.leave, St.add, h1]
  | full => simp [St.grow, St.leave, St.add, h1]
theorem app_more {P : Program} {S : St} {t ty e : TypeId} {own own2 : Own} {es es2 : List D} {K : D → St → Prop} (he : elT P t = some e) (hz : zeroT P e = true) (h : own = .full ∨ ∃ g, own = .row g ∧ S.ob g = some (.row e es.length)) (hw : ∀ d ∈ es, d.width = szOf P e) (hx : ∀ d ∈ es2, d.width = szOf P e)
    (hb : es.length + es2.length ≤ 140737488355328) (hb2 : (es.length + es2.length) * bytesOf P e ≤ 140737488355328) (k : K (.sl (.row S.next) (es ++ es2)) (S.grow own e (es.length + es2.length))) : dapp P S t t ty (.sl own es) (.sl own2 es2) K := by
  refine dapp_row ?_
  simp only [dappend, he, hz, true_and, Option.isSome_some]
  refine ⟨hw, hx, ?_, hb, hb2, k⟩
  rcases h with rfl | ⟨g, rfl, h⟩
  · trivial
  · exact h
section
set_option maxRecDepth 200000
set_option maxHeartbeats 4000000
end
end Go.Proofs.Ytonncfminojejaa

namespace Go.Proofs.Ytonncfminojejaa
open Go.RowKit
def own0 (i : Nat) : Own := bif Nat.beq i 0 then .full else .no
theorem closed_encH (h : H32) : (encH h).closed := by
  simp only [encH, D.closed, D.all]
  refine allL_iff.2 fun d hd => ?_
  obtain ⟨b, _, rfl⟩ := List.mem_map.1 hd
  simp [bD, D.all]
theorem closed_Hs (l : List H32) : (D.sl .no (l.map encH)).closed := by
  simp only [D.closed, D.all, Own.all, true_and]
  refine allL_iff.2 fun d hd => ?_
  obtain ⟨m, _, rfl⟩ := List.mem_map.1 hd
  exact closed_encH m
theorem wHs (l : List H32) : ∀ d ∈ l.map encH, d.width = 32 := fun d hd => by obtain ⟨m, _, rfl⟩ := List.mem_map.1 hd; exact width_encH m
section
set_option maxRecDepth 200000
set_option maxHeartbeats 4000000
theorem hashes_d (own own2 : Own) (a b : List H32) (ha : a.length ≤ 1000000) : DPure Try.prog 28 [.sl own (a.map encH), .sl own2 (b.map encH)] (.v (.bool (decide (a = b)))) := by
  refine dpure_of_dwp mixed Try.func28 rfl (fun _ _ => by kernel_rfl) (rs := [.tmp 4]) rfl (by kernel_rfl) trivial (fun S hS => ?_)
  by_cases hl : a.length = b.length
  · have b0 : ((a.length : Int) != (b.length : Int)) = false := by simp [hl]
    (simp (disch := first | decide | omega | (simp only [nx]; first | done | omega)) only [go_sem, b0]; (repeat with_reducible refine aI ?_))
    (refine dloop_st (fun t => List.contains [4, 5, 11, 12, 13, 14, 15, 16, 17, 18, 19, 20, 21, 22, 23, 24, 25] t) (by kernel_rfl) ?_ (a.length) (fun i f => i ≤ a.length ∧ f 5 = .v (.int .i64 (i : Nat)) ∧ (∀ j, j < i → a[j]? = b[j]?)) ?_ ?_; (exact (by (repeat' first | assumption | refine St.WF.leave ?_ _ | refine St.WF.add ?_ _ | refine St.WF.set ?_ ?_ _ | refine St.WF.grow ?_ _ _ _ | refine St.WF.keep ?_ ?_ | (first | omega | (simp only [RowOk.lo, nx]; first | done | omega))))); (exact ⟨(by omega), (by (first | (simp (disch := first | decide | omega | (simp only [nx]; first | done | omega)) only [go_sem]; first | done | rfl) | rfl)), (fun j h => by omega)⟩); intro i g tn hn hT hg hI; obtain ⟨le, q5, hs⟩ := hI; have q0 := hg 0 rfl; have q1 := hg 1 rfl; simp (disch := first | decide | omega | (simp only [nx]; first | done | omega)) only [go_sem] at q0 q1; clear hg; have hn' := hn; try simp only [add_next, set_next, grow_next, leave_next, drop_next] at hn')
    by_cases hlt : i < a.length
    · have b1 : decide ((i : Int) < (a.length : Int)) = true := by simp; omega
      have w1 : IntKind.i64.wrap ((i : Int) + 1) = ((i + 1 : Nat) : Int) := IntWalk.i64_in _ ⟨by omega, by omega⟩
      have hlt' : i < b.length := by omega
      have la := a[i].2
      have lb := b[i].2
      (simp (disch := first | decide | omega | (simp only [nx]; first | done | omega)) only [go_sem, q0, q1, q5, b1]; (repeat with_reducible refine aI ?_))
      refine ddraw_mk 9 (by kernel_rfl) ?_
      (simp (disch := first | decide | omega | (simp only [nx]; first | done | omega)) only [go_sem, q0, q1, q5, hlt, hlt', la, lb]; (repeat with_reducible refine aI ?_))
      by_cases he : a[i] = b[i]
      · have b2 : (!decide (a[i] = b[i])) = false := by simp [he]
        (simp (disch := first | decide | omega | (simp only [nx]; first | done | omega)) only [go_sem, b2, q5, w1]; (repeat with_reducible refine aI ?_))
        (refine ⟨by omega, (by (repeat' first | assumption | exact St.Sub.refl _ | exact RowOk.sub (by assumption) (by assumption) | refine St.Sub.trans ?_ (RowOk.sub (by assumption) (by assumption)) | refine St.Sub.add ?_ ?_ _ | refine St.Sub.set ?_ ?_ ?_ _ | refine St.Sub.keep ?_ ?_ | refine St.WF.leave ?_ _ | refine St.WF.add ?_ _ | refine St.WF.set ?_ ?_ _ | refine St.WF.grow ?_ _ _ _ | refine St.WF.keep ?_ ?_ | (first | omega | (simp only [RowOk.lo, nx]; first | done | omega)))), ?_⟩; refine ⟨by omega, ?_, ?_⟩; all_goals (try (first | (simp (disch := first | decide | omega | (simp only [nx]; first | done | omega)) only [go_sem, w1]; first | done | rfl) | rfl)))
        intro j hj
        by_cases e : j = i
        · subst e; rw [List.getElem?_eq_getElem hlt, List.getElem?_eq_getElem hlt', he]
        · exact hs j (by omega)
      · have b2 : (!decide (a[i] = b[i])) = true := by simp [he]
        (simp (disch := first | decide | omega | (simp only [nx]; first | done | omega)) only [go_sem, b2]; (repeat with_reducible refine aI ?_))
        refine ⟨?_, (by (repeat' first | assumption | exact St.Sub.refl _ | exact RowOk.sub (by assumption) (by assumption) | refine St.Sub.trans ?_ (RowOk.sub (by assumption) (by assumption)) | refine St.Sub.add ?_ ?_ _ | refine St.Sub.set ?_ ?_ ?_ _ | refine St.Sub.keep ?_ ?_ | refine St.WF.leave ?_ _ | refine St.WF.add ?_ _ | refine St.WF.set ?_ ?_ _ | refine St.WF.grow ?_ _ _ _ | refine St.WF.keep ?_ ?_ | (first | omega | (simp only [RowOk.lo, nx]; first | done | omega))))⟩
        have : a ≠ b := fun h => he (by subst h; rfl)
        simp [D.frz, this]
    · have b1 : decide ((i : Int) < (a.length : Int)) = false := by simp; omega
      (simp (disch := first | decide | omega | (simp only [nx]; first | done | omega)) only [go_sem, q0, q5, b1]; (repeat with_reducible refine aI ?_))
      refine ⟨?_, (by (repeat' first | assumption | exact St.Sub.refl _ | exact RowOk.sub (by assumption) (by assumption) | refine St.Sub.trans ?_ (RowOk.sub (by assumption) (by assumption)) | refine St.Sub.add ?_ ?_ _ | refine St.Sub.set ?_ ?_ ?_ _ | refine St.Sub.keep ?_ ?_ | refine St.WF.leave ?_ _ | refine St.WF.add ?_ _ | refine St.WF.set ?_ ?_ _ | refine St.WF.grow ?_ _ _ _ | refine St.WF.keep ?_ ?_ | (first | omega | (simp only [RowOk.lo, nx]; first | done | omega))))⟩
      have : a = b := List.ext_getElem? fun j => by
        by_cases hj : j < i
        · exact hs j hj
        · rw [List.getElem?_eq_none (by omega), List.getElem?_eq_none (by omega)]
      simp [D.frz, this]
  · have b0 : ((a.length : Int) != (b.length : Int)) = true := by simp; omega
    (simp (disch := first | decide | omega | (simp only [nx]; first | done | omega)) only [go_sem, b0]; (repeat with_reducible refine aI ?_))
    refine ⟨?_, (by (repeat' first | assumption | exact St.Sub.refl _ | exact RowOk.sub (by assumption) (by assumption) | refine St.Sub.trans ?_ (RowOk.sub (by assumption) (by assumption)) | refine St.Sub.add ?_ ?_ _ | refine St.Sub.set ?_ ?_ ?_ _ | refine St.Sub.keep ?_ ?_ | refine St.WF.leave ?_ _ | refine St.WF.add ?_ _ | refine St.WF.set ?_ ?_ _ | refine St.WF.grow ?_ _ _ _ | refine St.WF.keep ?_ ?_ | (first | omega | (simp only [RowOk.lo, nx]; first | done | omega))))⟩
    have : a ≠ b := fun h => hl (by rw [h])
    simp [D.frz, this]
end
end Go.Proofs.Ytonncfminojejaa

namespace Go.Proofs.Ytonncfminojejaa
open Go.RowKit
theorem elHs : elT Try.prog 23 = some 44 := by kernel_rfl
theorem szHs : szOf Try.prog 44 = 32 := by kernel_rfl
theorem byHs : bytesOf Try.prog 44 = 32 := by kernel_rfl
theorem zeHs : zeroT Try.prog 44 = true := by kernel_rfl
theorem zoHs : zeroOk Try.prog 44 = true := by kernel_rfl
theorem flatHs_len (l : List H32) : (flat (l.map encH)).length = l.length * 32 := by rw [dflat_length (wHs l), List.length_map]
theorem hs_at {l : List H32} {zs : List D} {i : Nat} (hi : i < l.length) : ((flat (l.map encH) ++ zs).drop (i * 32)).take 32 = (l[i].1.map bD) := by
  have hf := flatHs_len (l.take i)
  rw [List.length_take, Nat.min_eq_left (by omega)] at hf
  have e : l = l.take i ++ l[i] :: l.drop (i + 1) := by rw [← List.drop_eq_getElem_cons hi, List.take_append_drop]
  have e2 : flat (l.map encH) = flat ((l.take i).map encH) ++ ((l[i].1.map bD) ++ flat ((l.drop (i + 1)).map encH)) := by
    conv => lhs; rw [e]
    rw [List.map_append, List.map_cons, flat_append, flat_cons, cells_encH]
  rw [e2, List.append_assoc, List.drop_append_of_le_length (by omega), List.drop_of_length_le (by omega), List.nil_append, List.append_assoc, List.take_append_of_le_length (by rw [len_encH]; omega), take_hash]
structure OwnH (T : St) (k c : Nat) (zs : List D) (l : List H32) : Prop where
  ob : T.ob k = some (ownOb 44 (l.map encH) zs c)
  ln : (flat (l.map encH) ++ zs).length = c * 32
  lt : k < T.next
theorem OwnH.le {T : St} {k c : Nat} {zs : List D} {l : List H32} (h : OwnH T k c zs l) : l.length ≤ c := by
  have := ownOb_len (wHs l) (by omega) h.ln
  rwa [List.length_map] at this
theorem OwnH.pos {T : St} {k c : Nat} {zs : List D} {l : List H32} (h : OwnH T k c zs l) (hl : 0 < l.length) : T.ob k = some (.box 44 (flat (l.map encH) ++ zs)) := by
  have h1 := h.le
  have h2 := h.ob
  rwa [ownOb_box (by omega)] at h2
theorem thawH {T : St} {k c : Nat} {zs : List D} {l : List H32} (h : OwnH T k c zs l) {d d1 : D} (hd : d.thaw k (l.map encH) = d1) : Thaw Try.prog T d (T.drop k) d1 := thaw_own h.ob (by rw [List.length_map]; exact h.le) (by rw [szHs]; omega) (by rw [szHs]; exact wHs l) hd
theorem dpure_ownH {g : FuncId} {args : List D} {l : List H32} (h : ∀ S : St, S.WF → DCalls Try.prog g args S fun d T => ∃ k c zs, d = .win k 0 l.length c ∧ S.next ≤ k ∧ OwnH T k c zs l ∧ S.Sub T) : DPure Try.prog g args (.sl .no (l.map encH)) := fun S base η w vs hM hr =>
  calls_fin ((h S hM.fresh).mono fun d T ⟨k, c, zs, e, hk, ho, hs⟩ => ⟨T.drop k, .sl .no (l.map encH), by
    subst e
    refine thawH ho ?_
    simp only [D.thaw, List.length_map, Nat.beq_refl, Bool.and_self, cond_true], fin_same hM.fresh (closed_Hs l) ⟨hs.next, fun j o hj => by
    have := St.WF.lt (S := S) hM.fresh hj
    simp only [St.drop]
    rw [if_neg (by omega)]
    exact hs.ob j o hj⟩⟩) base η w vs hM hr
def curH (l : List H32) (q : Nat) : List H32 := packH (l.take q) ++ l.drop (packH (l.take q)).length
theorem packH_takeLen (l : List H32) (q : Nat) : (packH (l.take q)).length ≤ q ∧ (packH (l.take q)).length ≤ l.length := by
  have h := packH_len (l.take q)
  rw [List.length_take] at h
  omega
theorem curH_len (l : List H32) (q : Nat) : (curH l q).length = l.length := by
  have := packH_takeLen l q
  rw [curH, List.length_append, List.length_drop]
  omega
theorem curH_at (l : List H32) (q i : Nat) (h : (packH (l.take q)).length ≤ i) (hi : i < l.length) : (curH l q)[i]'(by rw [curH_len]; exact hi) = l[i] := by
  unfold curH
  rw [List.getElem_append_right h, List.getElem_drop]
  congr 1
  omega
theorem curH_none {l : List H32} {q : Nat} (h : packH (l.take q) = l.take q) : curH l q = l := by
  unfold curH
  rw [h, List.length_take]
  rcases Nat.lt_or_ge q l.length with h1 | h1
  · rw [Nat.min_eq_left (by omega), List.take_append_drop]
  · rw [List.take_of_length_le h1, List.drop_of_length_le (by omega), List.append_nil]
theorem curH_same {l : List H32} {i : Nat} (h : i + 1 < l.length) (he : l[i] = l[i + 1]) : curH l (i + 2) = curH l (i + 1) := by
  unfold curH
  rw [packH_take l i h, if_pos he]
theorem curH_new {l : List H32} {i : Nat} (h : i + 1 < l.length) (he : l[i] ≠ l[i + 1]) (hp : (packH (l.take (i + 1))).length < l.length) : curH l (i + 2) = (curH l (i + 1)).set (packH (l.take (i + 1))).length l[i + 1] := by
  unfold curH
  rw [packH_take l i h, if_neg he, List.set_append_right _ _ (Nat.le_refl _), Nat.sub_self, List.drop_eq_getElem_cons hp, List.set_cons_zero, List.length_append, List.append_assoc]
  rfl
section
set_option maxRecDepth 200000
set_option maxHeartbeats 4000000
theorem compactH_w {S : St} {k c : Nat} {zs : List D} (l : List H32) (ho : OwnH S k c zs l) (hlen : l.length ≤ 1000000) :
    DCalls Try.prog 51 [.win k 0 l.length c] S (fun d T => ∃ zs', d = .win k 0 (packH l).length c ∧ OwnH T k c zs' (packH l) ∧ S.next ≤ T.next ∧ ∀ j o, j ≠ k → S.ob j = some o → T.ob j = some o) := by
  have hle := ho.le
  have hlt := ho.lt
  refine dcalls_inline mixed Try.func51 rfl (fun _ _ => by kernel_rfl) (rs := [.tmp 2]) rfl (by kernel_rfl) (fun hS => ?_)
  by_cases h2 : l.length < 2
  · have b1 : decide ((l.length : Int) < 2) = true := by simp; omega
    have hp : packH l = l := by
      match l, h2 with
      | [], _ => rfl
      | [x], _ => rfl
    (simp (disch := first | decide | omega | (simp only [nx]; first | done | omega)) only [go_sem, b1]; (repeat with_reducible refine aI ?_))
    rw [hp]
    exact ⟨zs, rfl, ho, Nat.le_refl _, fun _ _ _ h => h⟩
  have b1 : decide ((l.length : Int) < 2) = false := by simp; omega
  have hk := ho.pos (by omega)
  (simp (disch := first | decide | omega | (simp only [nx]; first | done | omega)) only [go_sem, b1]; (repeat with_reducible refine aI ?_))
  (refine dloop_st (fun t => List.contains [2, 3, 4, 5, 10, 11, 12, 13, 14, 15, 16, 17, 18, 19, 20, 21, 22, 23, 24, 25, 26, 27, 28, 29, 30, 31, 32, 33, 34, 35, 36, 37, 38, 39, 40, 41, 42, 43, 44, 45, 46, 47, 48, 49, 50, 51, 52, 53, 54, 55, 56, 57, 58, 59] t) (by kernel_rfl) ?_ (l.length) (fun i f => i ≤ l.length ∧ f 3 = .v (.int .i64 ((i + 1 : Nat))) ∧ f 2 = .sl .full [] ∧ (packH (l.take (i + 1)) = l.take (i + 1))) ?_ ?_; (exact (by (repeat' first | assumption | refine St.WF.leave ?_ _ | refine St.WF.add ?_ _ | refine St.WF.set ?_ ?_ _ | refine St.WF.grow ?_ _ _ _ | refine St.WF.keep ?_ ?_ | (first | omega | (simp only [RowOk.lo, nx]; first | done | omega))))); (exact ⟨(by omega), (by (first | (simp (disch := first | decide | omega | (simp only [nx]; first | done | omega)) only [go_sem]; first | done | rfl) | rfl)), (by (first | (simp (disch := first | decide | omega | (simp only [nx]; first | done | omega)) only [go_sem]; first | done | rfl) | rfl)), (by rw [List.take_succ_eq_append_getElem (by omega)]; rfl)⟩); intro i g tn hn hT hg hI; obtain ⟨le, q3, q2, hp⟩ := hI; have q0 := hg 0 rfl; simp (disch := first | decide | omega | (simp only [nx]; first | done | omega)) only [go_sem] at q0; clear hg; have hn' := hn; try simp only [add_next, set_next, grow_next, leave_next, drop_next] at hn')
  by_cases hlt1 : i + 1 < l.length
  · have b2 : decide (((i + 1 : Nat) : Int) < (l.length : Int)) = true := by simp; omega
    have w0 : IntKind.i64.wrap (((i + 1 : Nat) : Int) - 1) = ((i : Nat) : Int) := by rw [IntKind.wrap_i64]; omega
    have w1 : IntKind.i64.wrap (((i + 1 : Nat) : Int) + 1) = ((i + 1 + 1 : Nat) : Int) := IntWalk.i64_in _ ⟨by omega, by omega⟩
    have hcs := ho.ln
    have m1 := hs_at (zs := zs) hlt1
    have m2 := hs_at (zs := zs) (by omega : i < l.length)
    by_cases he : l[i + 1] = l[i]
    · have b3 : decide (l[i + 1] = l[i]) = true := decide_eq_true he
      have hq : packH (l.take (i + 2)) = l.take (i + 1) := by rw [packH_take l i hlt1, if_pos he.symm, hp]
      (simp (disch := first | decide | omega | (simp only [nx]; first | done | omega)) only [go_sem, q0, q3, q2, b2]; (repeat with_reducible refine aI ?_))
      refine ddraw_mk 10 (by kernel_rfl) ?_
      (simp (disch := first | decide | omega | (simp only [nx]; first | done | omega)) only [go_sem, q0, q3, q2, b2, w0, hk, Nat.zero_add, hcs, m1, m2, b3]; (repeat with_reducible refine aI ?_))
      rw [winOff_lt (by omega)]
      have hq0 : (packH (l.take (i + 2 + 0))).length = i + 1 := by rw [Nat.add_zero, hq, List.length_take]; omega
      have hk : S.ob k = some (.box 44 (flat ((curH l (i + 2 + 0)).map encH) ++ zs)) := by rw [Nat.add_zero, curH_same hlt1 he.symm, curH_none hp]; exact hk
      (refine dloop_var (fun t => List.contains [3, 5, 29, 30, 31, 32, 33, 34, 35, 36, 37, 38, 39, 40, 41, 42, 43, 44, 45, 46, 47, 48, 49, 50, 51, 52, 53] t) (by kernel_rfl) ?_ (l.length - (i + 2)) (k) (fun ij => .box 44 (flat ((curH l (i + 2 + ij)).map encH) ++ zs)) ?_ (fun ij f => ij ≤ l.length - (i + 2) ∧ f 3 = .v (.int .i64 (((packH (l.take (i + 2 + ij))).length : Nat))) ∧ f 5 = .v (.int .i64 ((ij + 1 : Nat))) ∧ ((packH (l.take (i + 2 + ij))).length ≤ i + 1 + ij)) ?_ ?_; (exact (by (repeat' first | assumption | refine St.WF.leave ?_ _ | refine St.WF.add ?_ _ | refine St.WF.set ?_ ?_ _ | refine St.WF.grow ?_ _ _ _ | refine St.WF.keep ?_ ?_ | (first | omega | (simp only [RowOk.lo, nx]; first | done | omega))))); (exact (by (first | (first | (simp (disch := first | decide | omega | (simp only [nx]; first | done | omega)) only [go_sem]; first | done | rfl) | rfl) | (first | (simp (disch := first | decide | omega | (simp only [nx]; first | done | omega)) only [go_sem, q3, hq0, hk]; first | done | rfl) | rfl)))); (exact ⟨(by omega), (by (first | (simp (disch := first | decide | omega | (simp only [nx]; first | done | omega)) only [go_sem, q3, hq0, hk]; first | done | rfl) | rfl)), (by (first | (simp (disch := first | decide | omega | (simp only [nx]; first | done | omega)) only [go_sem, q3, hq0, hk]; first | done | rfl) | rfl)), (by omega)⟩); intro ij gj tnj hnj hTj hgj hIj; obtain ⟨lej, q3j, q5j, hpj⟩ := hIj; have q0j := hgj 0 rfl; have q2j := hgj 2 rfl; have q4j := hgj 4 rfl; simp (disch := first | decide | omega | (simp only [nx]; first | done | omega)) only [go_sem, q3, hq0, hk] at q0j q2j q4j; clear hgj; have hnj' := hnj; try simp only [add_next, set_next, grow_next, leave_next, drop_next] at hnj')
      by_cases hlt2 : i + 2 + ij < l.length
      · have b4 : decide (((ij + 1 : Nat) : Int) < ((l.length - (i + 1) : Nat) : Int)) = true := by simp; omega
        have w2 : IntKind.i64.wrap (((ij + 1 : Nat) : Int) - 1) = ((ij : Nat) : Int) := by rw [IntKind.wrap_i64]; omega
        have w3 : IntKind.i64.wrap (((ij + 1 : Nat) : Int) + 1) = ((ij + 1 + 1 : Nat) : Int) := IntWalk.i64_in _ ⟨by omega, by omega⟩
        have hcl := curH_len l (i + 2 + ij)
        have hcs2 : (flat ((curH l (i + 2 + ij)).map encH) ++ zs).length = c * 32 := by
          have := ho.ln
          simp only [List.length_append, flatHs_len, hcl] at this ⊢
          exact this
        have m3 := hs_at (l := curH l (i + 2 + ij)) (zs := zs) (by omega : i + 2 + ij < _)
        have m4 := hs_at (l := curH l (i + 2 + ij)) (zs := zs) (by omega : i + 1 + ij < _)
        rw [curH_at l _ _ (by omega) (by omega)] at m3 m4
        have x3 : (i + 1) * 32 + (ij + 1) * 32 = (i + 2 + ij) * 32 := by omega
        have x4 : (i + 1) * 32 + ij * 32 = (i + 1 + ij) * 32 := by omega
        (simp (disch := first | decide | omega | (simp only [nx]; first | done | omega)) only [go_sem, q0j, q3j, q4j, q5j, b4]; (repeat with_reducible refine aI ?_))
        refine ddraw_mk 10 (by kernel_rfl) ?_
        (simp (disch := first | decide | omega | (simp only [nx]; first | done | omega)) only [go_sem, q0j, q3j, q4j, q5j, b4, w2, Nat.zero_add, hcs2, x3, x4, m3, m4]; (repeat with_reducible refine aI ?_))
        have y2 : i + 2 + (ij + 1) = i + 1 + ij + 2 := by omega
        have y1 : i + 2 + ij = i + 1 + ij + 1 := by omega
        have hlt3 : i + 1 + ij + 1 < l.length := by omega
        have hpP : (packH (l.take (i + 2 + ij))).length < l.length := by omega
        by_cases he2 : l[i + 2 + ij] = l[i + 1 + ij]
        · have b5 : (!decide (l[i + 2 + ij] = l[i + 1 + ij])) = false := by simp [he2]
          (simp (disch := first | decide | omega | (simp only [nx]; first | done | omega)) only [go_sem, b5, q5j, w3]; (repeat with_reducible refine aI ?_))
          have he3 : l[i + 1 + ij] = l[i + 1 + ij + 1] := by rw [← he2]; congr 1
          have e1 : packH (l.take (i + 2 + (ij + 1))) = packH (l.take (i + 2 + ij)) := by rw [y2, y1, packH_take l _ hlt3, if_pos he3]
          have e2 : curH l (i + 2 + (ij + 1)) = curH l (i + 2 + ij) := by unfold curH; rw [e1]
          refine ⟨by omega, ?_, by omega, ?_, ?_, by rw [e1]; omega⟩
          · show (St.set _ k (Ob.box _ (flat ((curH l (i + 2 + (ij + 1))).map encH) ++ zs))).Sub _
            rw [e2]
            exact ⟨hnj, fun _ _ h => h⟩
          · rw [e1]; (first | (simp (disch := first | decide | omega | (simp only [nx]; first | done | omega)) only [go_sem, q3j]; first | done | rfl) | rfl)
          · (first | (simp (disch := first | decide | omega | (simp only [nx]; first | done | omega)) only [go_sem, w3]; first | done | rfl) | rfl)
        · have b5 : (!decide (l[i + 2 + ij] = l[i + 1 + ij])) = true := by simp [he2]
          have w4 : IntKind.i64.wrap (((packH (l.take (i + 2 + ij))).length : Int) + 1) = (((packH (l.take (i + 2 + ij))).length + 1 : Nat) : Int) := IntWalk.i64_in _ ⟨by omega, by omega⟩
          have lw := l[i + 2 + ij].2
          (simp (disch := first | decide | omega | (simp only [nx]; first | done | omega)) only [go_sem, b5, q0, q0j, q3j, q4j, q5j, Nat.zero_add, hcs2, x3, m3, w3, w4, hcl, lw]; (repeat with_reducible refine aI ?_))
          have he3 : ¬ l[i + 1 + ij] = l[i + 1 + ij + 1] := fun h => he2 (by rw [h]; congr 1)
          have e1 : (packH (l.take (i + 2 + (ij + 1)))).length = (packH (l.take (i + 2 + ij))).length + 1 := by rw [y2, y1, packH_take l _ hlt3, if_neg he3, List.length_append]; rfl
          have e2 : curH l (i + 2 + (ij + 1)) = (curH l (i + 2 + ij)).set (packH (l.take (i + 2 + ij))).length l[i + 2 + ij] := by
            have := curH_new hlt3 he3 (by rw [← y1]; exact hpP)
            have e6 : l[i + 1 + ij + 1] = l[i + 2 + ij] := by congr 1; omega
            rw [e6, ← y1, ← y2] at this
            exact this
          refine ⟨by omega, ?_, by omega, ?_, ?_, by omega⟩
          · show (St.set _ k (Ob.box _ (flat ((curH l (i + 2 + (ij + 1))).map encH) ++ zs))).Sub _
            have key := splice_flat' (es := (curH l (i + 2 + ij)).map encH) (zs := zs) (z := 32) (i := (packH (l.take (i + 2 + ij))).length) (y := encH l[i + 2 + ij]) (by rw [List.length_map]; omega) (wHs _) (width_encH _)
            rw [cells_encH] at key
            rw [key, e2, List.map_set]
            exact St.Sub.upd hnj rfl (St.Sub.refl _)
          · rw [e1]; (first | (simp (disch := first | decide | omega | (simp only [nx]; first | done | omega)) only [go_sem, q3j]; first | done | rfl) | rfl)
          · (first | (simp (disch := first | decide | omega | (simp only [nx]; first | done | omega)) only [go_sem, w3]; first | done | rfl) | rfl)
      · have b4 : decide (((ij + 1 : Nat) : Int) < ((l.length - (i + 1) : Nat) : Int)) = false := by simp; omega
        (simp (disch := first | decide | omega | (simp only [nx]; first | done | omega)) only [go_sem, q0, q0j, q3j, q4j, q5j, b4]; (repeat with_reducible refine aI ?_))
        have hie : i + 2 + ij = l.length := by omega
        have hpe : packH (l.take (i + 2 + ij)) = packH l := by rw [hie, List.take_length]
        have hcl := curH_len l (i + 2 + ij)
        have hcs2 : (flat ((curH l (i + 2 + ij)).map encH) ++ zs).length = c * 32 := by
          have := ho.ln
          simp only [List.length_append, flatHs_len, hcl] at this ⊢
          exact this
        have hpl := packH_len l
        have hmul : (l.length - (packH l).length) * 32 + (packH l).length * 32 = l.length * 32 := by rw [← Nat.add_mul]; congr 1; omega
        have hcc := hcs2
        rw [List.length_append, flatHs_len, hcl] at hcc
        rw [hpe] at hpj ⊢
        rw [winOff_lt (by omega), Nat.zero_add]
        refine dclear_win elHs zeHs zoHs (bt := 44) (cs := flat ((curH l (i + 2 + ij)).map encH) ++ zs) (by (first | (simp (disch := first | decide | omega | (simp only [nx]; first | done | omega)) only [go_sem]; first | done | rfl) | rfl)) (by rw [szHs, hcs2]; omega) fun z2 hz2 => ?_
        rw [szHs] at hz2
        have e5 : flat ((curH l (i + 2 + ij)).map encH) = flat ((packH l).map encH) ++ flat ((l.drop (packH l).length).map encH) := by rw [curH, hpe, List.map_append, flat_append]
        rw [e5, List.append_assoc, splice_at (by rw [flatHs_len])]
        (simp (disch := first | decide | omega | (simp only [nx]; first | done | omega)) only [go_sem, q0, q0j, q3j, hpe, winOff_zero]; (repeat with_reducible refine aI ?_))
        refine ⟨z2 ++ List.drop z2.length (flat (List.map encH (List.drop (packH l).length l)) ++ zs), ⟨?_, ?_, ?_⟩, by omega, ?_⟩
        · rw [ownOb_box (by omega)]
          simp only [St.set, if_true, List.append_assoc]
        · have h3 := flatHs_len (l.drop (packH l).length)
          rw [List.length_drop] at h3
          simp only [List.length_append, List.length_drop, flatHs_len] at hcc ⊢
          omega
        · show k < tnj
          omega
        · intro j o hj h
          simp only [St.set, if_neg hj]
          exact h
    · have b3 : decide (l[i + 1] = l[i]) = false := decide_eq_false he
      (simp (disch := first | decide | omega | (simp only [nx]; first | done | omega)) only [go_sem, q0, q3, q2, b2]; (repeat with_reducible refine aI ?_))
      refine ddraw_mk 10 (by kernel_rfl) ?_
      (simp (disch := first | decide | omega | (simp only [nx]; first | done | omega)) only [go_sem, q0, q3, q2, b2, w0, hk, Nat.zero_add, hcs, m1, m2, b3, w1]; (repeat with_reducible refine aI ?_))
      (refine ⟨by omega, (by (repeat' first | assumption | exact St.Sub.refl _ | exact RowOk.sub (by assumption) (by assumption) | refine St.Sub.trans ?_ (RowOk.sub (by assumption) (by assumption)) | refine St.Sub.add ?_ ?_ _ | refine St.Sub.set ?_ ?_ ?_ _ | refine St.Sub.keep ?_ ?_ | refine St.WF.leave ?_ _ | refine St.WF.add ?_ _ | refine St.WF.set ?_ ?_ _ | refine St.WF.grow ?_ _ _ _ | refine St.WF.keep ?_ ?_ | (first | omega | (simp only [RowOk.lo, nx]; first | done | omega)))), ?_⟩; refine ⟨by omega, ?_, ?_, ?_⟩; all_goals (try (first | (simp (disch := first | decide | omega | (simp only [nx]; first | done | omega)) only [go_sem, w1, q2]; first | done | rfl) | rfl)))
      rw [packH_take l i hlt1, if_neg (fun h => he h.symm), hp, ← List.take_succ_eq_append_getElem hlt1]
  · have b2 : decide (((i + 1 : Nat) : Int) < (l.length : Int)) = false := by simp; omega
    (simp (disch := first | decide | omega | (simp only [nx]; first | done | omega)) only [go_sem, q0, q3, q2, b2]; (repeat with_reducible refine aI ?_))
    have hp' : packH l = l := by
      have h3 : l.length ≤ i + 1 := by omega
      rw [List.take_of_length_le h3] at hp
      exact hp
    rw [hp']
    exact ⟨zs, rfl, ⟨ho.ob, ho.ln, by show k < tn; omega⟩, by omega, fun _ _ _ h => h⟩
end
end Go.Proofs.Ytonncfminojejaa

namespace Go.Proofs.Ytonncfminojejaa
open Go.RowKit Go.Sort Go.Shelf
def sortHsL_ren : Go.Shelf.Ren := ⟨fun | 6 => 48 | 15 => 64 | 14 => 63 | 28 => 78 | 29 => 79 | 20 => 70 | 21 => 71 | 22 => 72 | 23 => 73 | 24 => 74 | 25 => 75 | 26 => 76 | 27 => 77 | 46 => 82 | 47 => 83 | 48 => 84 | 49 => 85 | 50 => 86 | 57 => 88 | n => n, fun | 22 => 23 | 24 => 44 | 25 => 93 | 3 => 3 | 39 => 90 | 0 => 0 | 53 => 125 | 55 => 58 | 4 => 4 | 46 => 118 | 45 => 117 | 50 => 122 | 5 => 5 | 9 => 9 | 66 => 129 | 70 => 133 | 76 => 135 | 77 => 136 | n => n, fun | n => n⟩
theorem sortHsL : Go.Proofs.SlLaysF0.n6 Try.prog sortHsL_ren := {
  mixed := by kernel_rfl
  f6 := ⟨Try.f48.name, by decide, Try.func48.trans (congrArg some (by kernel_rfl))⟩
  f14 := ⟨Try.f63.name, by decide, Try.func63.trans (congrArg some (by kernel_rfl))⟩
  f15 := Try.func64.trans (congrArg some (by kernel_rfl))
  f20 := ⟨Try.f70.name, by decide, Try.func70.trans (congrArg some (by kernel_rfl))⟩
  f21 := ⟨Try.f71.name, by decide, Try.func71.trans (congrArg some (by kernel_rfl))⟩
  f22 := ⟨Try.f72.name, by decide, Try.func72.trans (congrArg some (by kernel_rfl))⟩
  f23 := ⟨Try.f73.name, by decide, Try.func73.trans (congrArg some (by kernel_rfl))⟩
  f24 := ⟨Try.f74.name, by decide, Try.func74.trans (congrArg some (by kernel_rfl))⟩
  f25 := ⟨Try.f75.name, by decide, Try.func75.trans (congrArg some (by kernel_rfl))⟩
  f26 := ⟨Try.f76.name, by decide, Try.func76.trans (congrArg some (by kernel_rfl))⟩
  f27 := ⟨Try.f77.name, by decide, Try.func77.trans (congrArg some (by kernel_rfl))⟩
  f28 := Try.func78.trans (congrArg some (by kernel_rfl))
  f29 := Try.func79.trans (congrArg some (by kernel_rfl))
  f46 := ⟨Try.f82.name, by decide, Try.func82.trans (congrArg some (by kernel_rfl))⟩
  f47 := Try.func83.trans (congrArg some (by kernel_rfl))
  f48 := Try.func84.trans (congrArg some (by kernel_rfl))
  f49 := ⟨Try.f85.name, by decide, Try.func85.trans (congrArg some (by kernel_rfl))⟩
  f50 := ⟨Try.f86.name, by decide, Try.func86.trans (congrArg some (by kernel_rfl))⟩
  f57 := ⟨Try.f88.name, by decide, Try.func88.trans (congrArg some (by kernel_rfl))⟩
  t0 := Try.underlying0
  a0 := Try.isAgg0
  z0 := Try.sizeOf0
  v0 := Try.zeroValue0
  t3 := Try.underlying3
  a3 := Try.isAgg3
  z3 := Try.sizeOf3
  v3 := Try.zeroValue3
  t4 := Try.underlying4
  a4 := Try.isAgg4
  z4 := Try.sizeOf4
  v4 := Try.zeroValue4
  t5 := Try.underlying5
  a5 := Try.isAgg5
  z5 := Try.sizeOf5
  v5 := Try.zeroValue5
  t9 := Try.underlying9
  a9 := Try.isAgg9
  z9 := Try.sizeOf9
  v9 := Try.zeroValue9
  t22 := Try.underlying23
  a22 := Try.isAgg23
  z22 := Try.sizeOf23
  v22 := Try.zeroValue23
  t25 := Try.underlying93
  a25 := Try.isAgg93
  z25 := Try.sizeOf93
  v25 := Try.zeroValue93
  t39 := Try.underlying90
  a39 := Try.isAgg90
  z39 := Try.sizeOf90
  v39 := Try.zeroValue90
  t45 := Try.underlying117
  a45 := Try.isAgg117
  z45 := Try.sizeOf117
  v45 := Try.zeroValue117
  t46 := Try.underlying118
  a46 := Try.isAgg118
  z46 := Try.sizeOf118
  v46 := Try.zeroValue118
  t50 := Try.underlying122
  a50 := Try.isAgg122
  z50 := Try.sizeOf122
  v50 := Try.zeroValue122
  t53 := Try.underlying125
  a53 := Try.isAgg125
  z53 := Try.sizeOf125
  v53 := Try.zeroValue125
  t55 := Try.underlying58
  a55 := Try.isAgg58
  z55 := Try.sizeOf58
  v55 := Try.zeroValue58
  t66 := Try.underlying129
  a66 := Try.isAgg129
  z66 := Try.sizeOf129
  v66 := Try.zeroValue129
  t70 := Try.underlying133
  a70 := Try.isAgg133
  z70 := Try.sizeOf133
  v70 := Try.zeroValue133
  t76 := Try.underlying135
  a76 := Try.isAgg135
  z76 := Try.sizeOf135
  v76 := Try.zeroValue135
  t77 := Try.underlying136
  a77 := Try.isAgg136
  z77 := Try.sizeOf136
  v77 := Try.zeroValue136 }
instance : Inhabited H32 := ⟨⟨List.replicate 32 0, rfl⟩⟩
theorem isAgg_hash : ∀ w, (isAgg 44).run Try.prog w = .ok true w := fun w => by kernel_rfl
theorem sizeOf_hash : ∀ w, (Go.sizeOf 44).run Try.prog w = .ok 32 w := fun w => by kernel_rfl
def hsVs (h : H32) : List Value := h.1.map bV
theorem hsVs_len (h : H32) : (hsVs h).length = 32 := by simp [hsVs, h.2]
theorem hsVs_one (h : H32) : ∀ v ∈ hsVs h, v.oneCell' = true := fun v hv => by
  obtain ⟨b, _, rfl⟩ := List.mem_map.1 hv
  rfl
theorem encH_hv (h : H32) : encH h = .agg ((hsVs h).map D.v) := by
  simp only [encH, hsVs, List.map_map]
  rfl
section
set_option maxRecDepth 200000
set_option maxHeartbeats 4000000
theorem sortCmp_d (a b : H32) : DPure Try.prog 49 [encH a, encH b] (.v (.int .i64 (cmpH a b))) := by
  refine dpure_of_dwp mixed Try.func49 rfl (fun _ _ => by kernel_rfl) (rs := [.tmp 4]) rfl (by kernel_rfl) trivial (fun S hS => ?_)
  (simp (disch := first | decide | omega | (simp only [nx]; first | done | omega)) only [go_sem]; (repeat with_reducible refine aI ?_))
  refine ddraw_mk 4 (by kernel_rfl) ?_
  (simp (disch := first | decide | omega | (simp only [nx]; first | done | omega)) only [go_sem]; (repeat with_reducible refine aI ?_))
  refine dqgo_at (cmpH_st a b (winB_hash (t := 44) a ?_) (winB_hash (t := 44) b ?_)) ?_
  · (first | (simp (disch := first | decide | omega | (simp only [nx]; first | done | omega)) only [go_sem]; first | done | rfl) | rfl)
  · (first | (simp (disch := first | decide | omega | (simp only [nx]; first | done | omega)) only [go_sem]; first | done | rfl) | rfl)
  (simp (disch := first | decide | omega | (simp only [nx]; first | done | omega)) only [go_sem]; (repeat with_reducible refine aI ?_))
  refine ⟨?_, (by (repeat' first | assumption | exact St.Sub.refl _ | exact RowOk.sub (by assumption) (by assumption) | refine St.Sub.trans ?_ (RowOk.sub (by assumption) (by assumption)) | refine St.Sub.add ?_ ?_ _ | refine St.Sub.set ?_ ?_ ?_ _ | refine St.Sub.keep ?_ ?_ | refine St.WF.leave ?_ _ | refine St.WF.add ?_ _ | refine St.WF.set ?_ ?_ _ | refine St.WF.grow ?_ _ _ _ | refine St.WF.keep ?_ ?_ | (first | omega | (simp only [RowOk.lo, nx]; first | done | omega))))⟩
  rfl
variable {S : St}
theorem sort0H_d (k c : Nat) : DPure Try.prog 48 [.win k 0 0 c, .fn (.func 49) [] []] (.tup []) := by
  refine dpure_of_dwp mixed Try.func48 rfl (fun _ _ => by kernel_rfl) (rs := []) rfl (by kernel_rfl) trivial (fun S hS => ?_)
  have hcv : pureRun Try.prog (convert 3 90 (.int .i64 0)) = some (.int .u64 0) := by kernel_rfl
  (simp (disch := first | decide | omega | (simp only [nx]; first | done | omega)) only [go_sem, hcv]; (repeat with_reducible refine aI ?_))
  refine DCalls.of_pure (bitsLen_d sortHsL (by intro _ _; kernel_rfl) 0 (by omega)) ?_
  (simp (disch := first | decide | omega | (simp only [nx]; first | done | omega)) only [go_sem]; (repeat with_reducible refine aI ?_))
  refine dcalls_inline mixed Try.func63 rfl (fun _ _ => by kernel_rfl) (rs := []) rfl (by kernel_rfl) (fun hS => ?_)
  (simp (disch := first | decide | omega | (simp only [nx]; first | done | omega)) only [go_sem]; (repeat with_reducible refine aI ?_))
  refine dloop_fuel 1 (by (repeat' first | assumption | refine St.WF.leave ?_ _ | refine St.WF.add ?_ _ | refine St.WF.set ?_ ?_ _ | refine St.WF.grow ?_ _ _ _ | refine St.WF.keep ?_ ?_ | (first | omega | (simp only [RowOk.lo, nx]; first | done | omega)))) (by kernel_rfl) ?_
  rw [loopN_eq]
  have b1 : decide (IntKind.i64.wrap (0 - 0) ≤ 12) = true := by decide
  have b2 : decide ((1 : Int) < 0) = false := by decide
  (simp (disch := first | decide | omega | (simp only [nx]; first | done | omega)) only [go_sem, b1]; (repeat with_reducible refine aI ?_))
  refine dcalls_inline mixed Try.func70 rfl (fun _ _ => by kernel_rfl) (rs := []) rfl (by kernel_rfl) (fun hS => ?_)
  have b3 : IntKind.i64.wrap (0 + 1) = 1 := by decide
  (simp (disch := first | decide | omega | (simp only [nx]; first | done | omega)) only [go_sem, b3]; (repeat with_reducible refine aI ?_))
  refine dloop_fuel 1 (by (repeat' first | assumption | refine St.WF.leave ?_ _ | refine St.WF.add ?_ _ | refine St.WF.set ?_ ?_ _ | refine St.WF.grow ?_ _ _ _ | refine St.WF.keep ?_ ?_ | (first | omega | (simp only [RowOk.lo, nx]; first | done | omega)))) (by kernel_rfl) ?_
  rw [loopN_eq]
  (simp (disch := first | decide | omega | (simp only [nx]; first | done | omega)) only [go_sem, b2]; (repeat with_reducible refine aI ?_))
  refine ⟨?_, (by (repeat' first | assumption | exact St.Sub.refl _ | exact RowOk.sub (by assumption) (by assumption) | refine St.Sub.trans ?_ (RowOk.sub (by assumption) (by assumption)) | refine St.Sub.add ?_ ?_ _ | refine St.Sub.set ?_ ?_ ?_ _ | refine St.Sub.keep ?_ ?_ | refine St.WF.leave ?_ _ | refine St.WF.add ?_ _ | refine St.WF.set ?_ ?_ _ | refine St.WF.grow ?_ _ _ _ | refine St.WF.keep ?_ ?_ | (first | omega | (simp only [RowOk.lo, nx]; first | done | omega))))⟩
  rfl
theorem sortHs_w {k c : Nat} {zs : List D} (l : List H32) (ho : OwnH S k c zs l) (hn : l.length ≤ 1000000) :
    DCalls Try.prog 48 [.win k 0 l.length c, .fn (.func 49) [] []] S (fun d T => d = .tup [] ∧ ∃ l' : List H32, l'.Perm l ∧ l'.Pairwise (fun a b => ltOf cmpH b a = false) ∧ T = S.set k (ownOb 44 (l'.map encH) zs c)) := by
  rcases Nat.eq_zero_or_pos c with h0 | h0
  · subst h0
    have hl : l = [] := List.eq_nil_of_length_eq_zero (by have := ho.le; omega)
    subst hl
    refine (sort0H_d k 0 S).mono ?_
    rintro d T ⟨rfl, rfl⟩
    exact ⟨rfl, [], .nil, .nil, (ob_self ho.ob).symm⟩
  · have hk := ho.ob
    rw [ownOb_box h0] at hk
    have key := dsort (S := S) (k := k) (c := c) (A := []) (B := zs) (t := 44) (l := l) rfl sortHsL isAgg_hash sizeOf_hash (by intro _ _; kernel_rfl) hsVs_len hsVs_one encH_hv swo_cmpH (g := 49) (by intro _ _; kernel_rfl) sortCmp_d hk hn
    refine DCalls.mono key ?_
    rintro d T ⟨rfl, l', h1, h2, rfl⟩
    exact ⟨rfl, l', h1, h2, by rw [ownOb_box h0]; rfl⟩
theorem hsort_w {S : St} (own : Own) (l : List H32) (hn : l.length ≤ 1000000) :
    DCalls Try.prog 31 [.sl own (l.map encH)] S fun d T => ∃ k c zs, d = .win k 0 (sortH l).length c ∧ S.next ≤ k ∧ OwnH T k c zs (sortH l) ∧ S.Sub T := by
  refine dcalls_inline mixed Try.func31 rfl (fun _ _ => by kernel_rfl) (rs := [.tmp 2]) rfl (by kernel_rfl) (fun hS => ?_)
  (simp (disch := first | decide | omega | (simp only [nx]; first | done | omega)) only [go_sem]; (repeat with_reducible refine aI ?_))
  refine dapp_nil elHs (dappend_fresh elHs (by rw [elHs]; rfl) zeHs zoHs (es2 := l.map encH) (srcOk_sl (by rw [szHs]; exact wHs l)) rfl (by rw [List.length_map]; omega) (by rw [byHs, List.length_map]; omega) fun c zs h1 h2 => ?_)
  rw [szHs] at h2
  (simp (disch := first | decide | omega | (simp only [nx]; first | done | omega)) only [go_sem]; (repeat with_reducible refine aI ?_))
  refine (sortHs_w (S := S.add (ownOb 44 (l.map encH) zs c)) l ⟨by (first | (simp (disch := first | decide | omega | (simp only [nx]; first | done | omega)) only [go_sem]; first | done | rfl) | rfl), h2, by show S.next < S.next + 1; omega⟩ hn).mono ?_
  rintro d T ⟨rfl, l', hp, hs, rfl⟩
  (simp (disch := first | decide | omega | (simp only [nx]; first | done | omega)) only [go_sem]; (repeat with_reducible refine aI ?_))
  have hl := hp.length_eq
  have hpl := packH_sort hp hs
  have key := compactH_w (S := (S.add (ownOb 44 (l.map encH) zs c)).set S.next (ownOb 44 (l'.map encH) zs c)) (k := S.next) (c := c) (zs := zs) l' ⟨by (first | (simp (disch := first | decide | omega | (simp only [nx]; first | done | omega)) only [go_sem]; first | done | rfl) | rfl), by simp only [List.length_append, flatHs_len] at h2 ⊢; omega, by show S.next < S.next + 1; omega⟩ (by omega)
  rw [hl, hpl] at key
  refine key.mono ?_
  rintro d T ⟨zs', rfl, ho, hnx, hf⟩
  (simp (disch := first | decide | omega | (simp only [nx]; first | done | omega)) only [go_sem]; (repeat with_reducible refine aI ?_))
  refine ⟨S.next, c, zs', rfl, Nat.le_refl _, ho, by have : S.next + 1 ≤ T.next := hnx; omega, fun j o h => ?_⟩
  have := hS.lt h
  have hj : j ≠ S.next := by omega
  refine hf j o hj ?_
  (first | (simp (disch := first | decide | omega | (simp only [nx]; first | done | omega)) only [go_sem, hj, h]; first | done | rfl) | rfl)
theorem hsort_d (own : Own) (l : List H32) (hn : l.length ≤ 1000000) : DPure Try.prog 31 [.sl own (l.map encH)] (.sl .no ((sortH l).map encH)) := dpure_ownH fun _ _ => hsort_w own l hn
end
end Go.Proofs.Ytonncfminojejaa

namespace Go.Proofs.Ytonncfminojejaa
open Go.RowKit
def ixOf {α : Type} (p : α → Bool) (l : List α) : Int := if l.any p then ((l.findIdx p : Nat) : Int) else -1
theorem ixOf_at {α : Type} {p : α → Bool} {l : List α} {i : Nat} (h : i < l.length) (hp : p l[i] = true) (hs : ∀ j (h : j < l.length), j < i → p l[j] = false) : ixOf p l = (i : Int) := by
  have h1 : l.any p = true := List.any_eq_true.2 ⟨l[i], List.getElem_mem _, hp⟩
  have h2 : l.findIdx p = i := by
    rw [List.findIdx_eq h]
    exact ⟨hp, fun j hj => hs j (by omega) hj⟩
  rw [ixOf, if_pos h1, h2]
theorem ixOf_none {α : Type} {p : α → Bool} {l : List α} (hs : ∀ j (h : j < l.length), p l[j] = false) : ixOf p l = -1 := by
  have h1 : l.any p = false := List.any_eq_false.2 fun x hx => by
    obtain ⟨i, hi, rfl⟩ := List.getElem_of_mem hx
    rw [hs i hi]; simp
  rw [ixOf, if_neg (by rw [h1]; simp)]
theorem ixOf_any {α : Type} (p : α → Bool) (l : List α) : decide (ixOf p l ≥ 0) = l.any p := by
  unfold ixOf
  cases l.any p <;> simp
def keepN (p : H32 → Bool) (l : List H32) (q : Nat) : List H32 := (l.take q).filter fun x => !p x
def dcur (p : H32 → Bool) (l : List H32) (q : Nat) : List H32 := keepN p l q ++ l.drop (keepN p l q).length
theorem keepN_len (p : H32 → Bool) (l : List H32) (q : Nat) : (keepN p l q).length ≤ q ∧ (keepN p l q).length ≤ l.length := by
  have h := List.length_filter_le (fun x => !p x) (l.take q)
  rw [List.length_take] at h
  unfold keepN
  omega
theorem keepN_succ {p : H32 → Bool} {l : List H32} {q : Nat} (h : q < l.length) : keepN p l (q + 1) = keepN p l q ++ if p l[q] then [] else [l[q]] := by
  unfold keepN
  rw [List.take_succ_eq_append_getElem h, List.filter_append]
  congr 1
  cases hp : p l[q] <;> simp [hp]
theorem dcur_len (p : H32 → Bool) (l : List H32) (q : Nat) : (dcur p l q).length = l.length := by
  have := keepN_len p l q
  rw [dcur, List.length_append, List.length_drop]
  omega
theorem dcur_at (p : H32 → Bool) (l : List H32) (q i : Nat) (h : (keepN p l q).length ≤ i) (hi : i < l.length) : (dcur p l q)[i]'(by rw [dcur_len]; exact hi) = l[i] := by
  unfold dcur
  rw [List.getElem_append_right h, List.getElem_drop]
  congr 1
  omega
theorem dcur_none {p : H32 → Bool} {l : List H32} {q : Nat} (h : keepN p l q = l.take (keepN p l q).length) : dcur p l q = l := by
  unfold dcur
  conv => lhs; lhs; rw [h]
  rw [List.take_append_drop]
theorem dcur_skip {p : H32 → Bool} {l : List H32} {q : Nat} (h : q < l.length) (hp : p l[q] = true) : dcur p l (q + 1) = dcur p l q := by
  unfold dcur
  rw [keepN_succ h, if_pos hp, List.append_nil]
theorem dcur_put {p : H32 → Bool} {l : List H32} {q : Nat} (h : q < l.length) (hp : p l[q] = false) : dcur p l (q + 1) = (dcur p l q).set (keepN p l q).length l[q] := by
  have hk := keepN_len p l q
  have hq : (keepN p l q).length < l.length := by omega
  unfold dcur
  rw [keepN_succ h, if_neg (by rw [hp]; simp), List.set_append_right _ _ (Nat.le_refl _), Nat.sub_self, List.drop_eq_getElem_cons hq, List.set_cons_zero, List.length_append, List.append_assoc]
  rfl
theorem sub_tmp0 {S : St} (hS : S.WF) {k tn : Nat} {b zb vb : Ob} (hn : S.next ≤ tn) (hk : k < S.next) : (S.set k b).Sub ((({ next := tn, ob := (S.set k b).ob } : St).add zb).set tn vb) := ⟨Nat.le_succ_of_le hn, fun j o hj => by
  have hjn : j < S.next := (hS.set hk b).lt hj
  show (if j = tn then _ else if j = tn then _ else (S.set k b).ob j) = _
  rw [if_neg (by omega), if_neg (by omega)]
  exact hj⟩
theorem sub_tmp1 {S : St} (hS : S.WF) {k tn : Nat} {b b' zb vb : Ob} (hn : S.next ≤ tn) (hk : k < S.next) : (S.set k b').Sub (((({ next := tn, ob := (S.set k b).ob } : St).add zb).set tn vb).set k b') := ⟨Nat.le_succ_of_le hn, fun j o hj => by
  have hjn : j < S.next := (hS.set hk b').lt hj
  show (if j = k then _ else if j = tn then _ else if j = tn then _ else if j = k then _ else S.ob j) = _
  by_cases e : j = k
  · rw [if_pos e]
    rw [e, set_ob, if_pos rfl] at hj
    exact hj
  · rw [set_ob, if_neg e] at hj
    rw [if_neg e, if_neg (by omega), if_neg (by omega), if_neg e]
    exact hj⟩
section
set_option maxRecDepth 200000
set_option maxHeartbeats 4000000
theorem ixH_w {S : St} {k c : Nat} {zs : List D} {l : List H32} {g : FuncId} {fs : List D} (p : H32 → Bool) (ho : OwnH S k c zs l) (hl : l.length ≤ 1000000)
    (hc : ∀ x T, S.next ≤ T.next → T.WF → (∀ j o, j ≠ k → S.ob j = some o → T.ob j = some o) → DAt Try.prog g (fs ++ [encH x]) T (.v (.bool (p x)))) :
    DAt Try.prog 68 [.win k 0 l.length c, .fn (.func g) fs []] S (.v (.int .i64 (ixOf p l))) := by
  refine dat_of_dwpL mixed Try.func68 rfl (fun _ _ => by kernel_rfl) (rs := [.tmp 4]) rfl (by kernel_rfl) (by trivial) (fun hS => ?_)
  (simp (disch := first | decide | omega | (simp only [nx]; first | done | omega)) only [go_sem]; (repeat with_reducible refine aI ?_))
  (refine dloop_st (fun t => List.contains [4, 5, 8, 9, 10, 11, 12, 13, 14, 15, 16, 17, 18] t) (by kernel_rfl) ?_ (l.length) (fun i f => i ≤ l.length ∧ f 8 = .v (.int .i64 (i : Nat)) ∧ (∀ j (h : j < l.length), j < i → p l[j] = false)) ?_ ?_; (exact (by (repeat' first | assumption | refine St.WF.leave ?_ _ | refine St.WF.add ?_ _ | refine St.WF.set ?_ ?_ _ | refine St.WF.grow ?_ _ _ _ | refine St.WF.keep ?_ ?_ | (first | omega | (simp only [RowOk.lo, nx]; first | done | omega))))); (exact ⟨(by omega), (by (first | (simp (disch := first | decide | omega | (simp only [nx]; first | done | omega)) only [go_sem]; first | done | rfl) | rfl)), (fun j _ h => absurd h (by omega))⟩); intro i g tn hn hT hg hI; obtain ⟨le, q8, hs⟩ := hI; have q0 := hg 0 rfl; have q1 := hg 1 rfl; have q7 := hg 7 rfl; simp (disch := first | decide | omega | (simp only [nx]; first | done | omega)) only [go_sem] at q0 q1 q7; clear hg; have hn' := hn; try simp only [add_next, set_next, grow_next, leave_next, drop_next] at hn')
  by_cases hlt : i < l.length
  · have b1 : decide ((i : Int) < (l.length : Int)) = true := decide_eq_true (by omega)
    have w1 : IntKind.i64.wrap ((i : Int) + 1) = ((i + 1 : Nat) : Int) := IntWalk.i64_in _ ⟨by omega, by omega⟩
    have hk := ho.pos (by omega)
    have hcs := ho.ln
    have hle := ho.le
    have m1 := hs_at (zs := zs) hlt
    (simp (disch := first | decide | omega | (simp only [nx]; first | done | omega)) only [go_sem, q0, q1, q7, q8, b1, hlt, hk, Nat.zero_add, hcs, m1]; (repeat with_reducible refine aI ?_))
    refine go_at (hc l[i] ⟨tn, S.ob⟩ hn hT (fun _ _ _ h => h)) ?_
    cases hp : p l[i] with
    | false =>
      (simp (disch := first | decide | omega | (simp only [nx]; first | done | omega)) only [go_sem, q8, w1]; (repeat with_reducible refine aI ?_))
      refine ⟨by omega, ⟨hn, fun _ _ h => h⟩, by omega, ?_, fun j hj hji => ?_⟩
      · (first | (simp (disch := first | decide | omega | (simp only [nx]; first | done | omega)) only [go_sem, w1]; first | done | rfl) | rfl)
      · by_cases e : j = i
        · subst e; exact hp
        · exact hs j hj (by omega)
    | true =>
      (simp (disch := first | decide | omega | (simp only [nx]; first | done | omega)) only [go_sem]; (repeat with_reducible refine aI ?_))
      refine ⟨?_, ⟨hn, fun _ _ h => h⟩⟩
      rw [ixOf_at hlt hp hs]
      rfl
  · have b1 : decide ((i : Int) < (l.length : Int)) = false := decide_eq_false (by omega)
    (simp (disch := first | decide | omega | (simp only [nx]; first | done | omega)) only [go_sem, q7, q8, b1]; (repeat with_reducible refine aI ?_))
    refine ⟨?_, ⟨hn, fun _ _ h => h⟩⟩
    rw [ixOf_none fun j hj => hs j hj (by omega)]
    rfl
theorem deleteH_w {S : St} {k c : Nat} {zs : List D} {l : List H32} {g : FuncId} {fs : List D} (p : H32 → Bool) (ho : OwnH S k c zs l) (hl : l.length ≤ 1000000)
    (hc : ∀ x T, S.next ≤ T.next → T.WF → (∀ j o, j ≠ k → S.ob j = some o → T.ob j = some o) → DAt Try.prog g (fs ++ [encH x]) T (.v (.bool (p x)))) :
    DCalls Try.prog 59 [.win k 0 l.length c, .fn (.func g) fs []] S (fun d T => ∃ zs', d = .win k 0 (l.filter fun x => !p x).length c ∧ OwnH T k c zs' (l.filter fun x => !p x) ∧ S.next ≤ T.next ∧ ∀ j o, j ≠ k → S.ob j = some o → T.ob j = some o) := by
  have hle := ho.le
  have hlt := ho.lt
  refine dcalls_inline mixed Try.func59 rfl (fun _ _ => by kernel_rfl) (rs := [.tmp 4]) rfl (by kernel_rfl) (fun hS => ?_)
  (simp (disch := first | decide | omega | (simp only [nx]; first | done | omega)) only [go_sem]; (repeat with_reducible refine aI ?_))
  refine go_at (ixH_w p ho hl hc) ?_
  by_cases hany : l.any p = true
  · have hi0 : l.findIdx p < l.length := List.findIdx_lt_length_of_exists (by obtain ⟨x, h1, h2⟩ := List.any_eq_true.1 hany; exact ⟨x, h1, h2⟩)
    have hp0 : p l[l.findIdx p] = true := List.findIdx_getElem (w := hi0)
    have hpre : ∀ j (h : j < l.length), j < l.findIdx p → p l[j] = false := fun j h hj => by
      have := List.not_of_lt_findIdx hj
      simpa using this
    have e0 : ixOf p l = ((l.findIdx p : Nat) : Int) := by rw [ixOf, if_pos hany]
    rw [e0]
    generalize l.findIdx p = i0 at *
    have hkn : keepN p l (i0 + 1) = l.take i0 := by
      rw [keepN_succ hi0, if_pos hp0, List.append_nil, keepN]
      refine List.filter_eq_self.2 fun x hx => ?_
      obtain ⟨j, hj, rfl⟩ := List.getElem_of_mem hx
      rw [List.length_take] at hj
      rw [List.getElem_take, hpre j (by omega) (by omega)]
      rfl
    have hd0 : dcur p l (i0 + 1 + 0) = l := dcur_none (by rw [Nat.add_zero, hkn, List.length_take]; congr 1; omega)
    have hl0 : (keepN p l (i0 + 1 + 0)).length = i0 := by rw [Nat.add_zero, hkn, List.length_take]; omega
    have b1 : (((i0 : Nat) : Int) == -1) = false := by rw [beq_eq_false_iff_ne]; omega
    have w0 : IntKind.i64.wrap (((i0 : Nat) : Int) + 1) = ((i0 + 1 : Nat) : Int) := IntWalk.i64_in _ ⟨by omega, by omega⟩
    have hc0 : 0 < c := by omega
    have hk : S.ob k = some (.box 44 (flat ((dcur p l (i0 + 1 + 0)).map encH) ++ zs)) := by rw [hd0]; exact ho.pos (by omega)
    (simp (disch := first | decide | omega | (simp only [nx]; first | done | omega)) only [go_sem, b1, w0]; (repeat with_reducible refine aI ?_))
    (refine dloop_var (fun t => List.contains [5, 6, 7, 16, 17, 18, 19, 20, 21, 22, 23, 24, 25, 26, 27, 28, 29, 30, 31, 32, 33, 34, 35] t) (by kernel_rfl) ?_ (l.length - (i0 + 1)) (k) (fun i => .box 44 (flat ((dcur p l (i0 + 1 + i)).map encH) ++ zs)) ?_ (fun i f => i ≤ l.length - (i0 + 1) ∧ f 6 = .v (.int .i64 ((i0 + 1 + i : Nat) : Int)) ∧ f 5 = .v (.int .i64 ((keepN p l (i0 + 1 + i)).length : Nat))) ?_ ?_; (exact (by (repeat' first | assumption | refine St.WF.leave ?_ _ | refine St.WF.add ?_ _ | refine St.WF.set ?_ ?_ _ | refine St.WF.grow ?_ _ _ _ | refine St.WF.keep ?_ ?_ | (first | omega | (simp only [RowOk.lo, nx]; first | done | omega))))); (exact (by (first | (first | (simp (disch := first | decide | omega | (simp only [nx]; first | done | omega)) only [go_sem]; first | done | rfl) | rfl) | (first | (simp (disch := first | decide | omega | (simp only [nx]; first | done | omega)) only [go_sem, hk, hl0, w0]; first | done | rfl) | rfl)))); (exact ⟨(by omega), (by (first | (simp (disch := first | decide | omega | (simp only [nx]; first | done | omega)) only [go_sem, hk, hl0, w0]; first | done | rfl) | rfl)), (by (first | (simp (disch := first | decide | omega | (simp only [nx]; first | done | omega)) only [go_sem, hk, hl0, w0]; first | done | rfl) | rfl))⟩); intro i g tn hn hT hg hI; obtain ⟨le, q6, q5⟩ := hI; have q0 := hg 0 rfl; have q1 := hg 1 rfl; have q4 := hg 4 rfl; simp (disch := first | decide | omega | (simp only [nx]; first | done | omega)) only [go_sem, hk, hl0, w0] at q0 q1 q4; clear hg; have hn' := hn; try simp only [add_next, set_next, grow_next, leave_next, drop_next] at hn')
    have hkl := keepN_len p l (i0 + 1 + i)
    have hkl2 : (keepN p l (i0 + 1 + i)).length ≤ i0 + i := by
      have h1 : ∀ n, (keepN p l (i0 + 1 + n)).length ≤ i0 + n := fun n => by
        induction n with
        | zero => rw [hl0]; omega
        | succ n ih =>
          rcases Nat.lt_or_ge (i0 + 1 + n) l.length with h | h
          · rw [show i0 + 1 + (n + 1) = i0 + 1 + n + 1 by omega, keepN_succ h, List.length_append]
            split <;> simp <;> omega
          · have e : keepN p l (i0 + 1 + (n + 1)) = keepN p l (i0 + 1 + n) := by unfold keepN; rw [List.take_of_length_le (by omega), List.take_of_length_le h]
            rw [e]; omega
      exact h1 i
    have hdl := dcur_len p l (i0 + 1 + i)
    have hcs2 : (flat ((dcur p l (i0 + 1 + i)).map encH) ++ zs).length = c * 32 := by
      have := ho.ln
      simp only [List.length_append, flatHs_len, hdl] at this ⊢
      exact this
    by_cases hlt2 : i0 + 1 + i < l.length
    · have b2 : decide (((i0 + 1 + i : Nat) : Int) < ((l.length : Nat) : Int)) = true := decide_eq_true (by omega)
      have w1 : IntKind.i64.wrap (((i0 + 1 + i : Nat) : Int) + 1) = ((i0 + 1 + (i + 1) : Nat) : Int) := IntWalk.i64_in _ ⟨by omega, by omega⟩
      have w2 : IntKind.i64.wrap ((((keepN p l (i0 + 1 + i)).length : Nat) : Int) + 1) = (((keepN p l (i0 + 1 + i)).length + 1 : Nat) : Int) := IntWalk.i64_in _ ⟨by omega, by omega⟩
      have m3 := hs_at (l := dcur p l (i0 + 1 + i)) (zs := zs) (by omega : i0 + 1 + i < _)
      rw [dcur_at p l _ _ (by omega) hlt2] at m3
      have lw := l[i0 + 1 + i].2
      have hkt : k ≠ tn := by omega
      (simp (disch := first | decide | omega | (simp only [nx]; first | done | omega)) only [go_sem, q0, q1, q5, q6, b2, Nat.zero_add, hcs2, m3, lw]; (repeat with_reducible refine aI ?_))
      refine go_at (hc l[i0 + 1 + i] _ (by show S.next ≤ tn + 1; omega) (by (repeat' first | assumption | refine St.WF.leave ?_ _ | refine St.WF.add ?_ _ | refine St.WF.set ?_ ?_ _ | refine St.WF.grow ?_ _ _ _ | refine St.WF.keep ?_ ?_ | (first | omega | (simp only [RowOk.lo, nx]; first | done | omega)))) (fun j o hj e => ?_)) ?_
      · have hjn := hS.lt e
        show (if j = tn then _ else if j = tn then _ else if j = k then _ else S.ob j) = _
        rw [if_neg (by omega), if_neg (by omega), if_neg hj, e]
      cases hp : p l[i0 + 1 + i] with
      | true =>
        (simp (disch := first | decide | omega | (simp only [nx]; first | done | omega)) only [go_sem, q6, w1]; (repeat with_reducible refine aI ?_))
        have e1 : keepN p l (i0 + 1 + (i + 1)) = keepN p l (i0 + 1 + i) := by rw [show i0 + 1 + (i + 1) = i0 + 1 + i + 1 by omega, keepN_succ hlt2, if_pos hp, List.append_nil]
        have e2 : dcur p l (i0 + 1 + (i + 1)) = dcur p l (i0 + 1 + i) := dcur_skip hlt2 hp
        refine ⟨by omega, ?_, by omega, ?_, ?_⟩
        · show (St.set _ k (Ob.box 44 (flat ((dcur p l (i0 + 1 + (i + 1))).map encH) ++ zs))).Sub _
          rw [e2]
          exact sub_tmp0 hS hn hlt
        · (first | (simp (disch := first | decide | omega | (simp only [nx]; first | done | omega)) only [go_sem, w1]; first | done | rfl) | rfl)
        · rw [e1]; (first | (simp (disch := first | decide | omega | (simp only [nx]; first | done | omega)) only [go_sem, q5]; first | done | rfl) | rfl)
      | false =>
        (simp (disch := first | decide | omega | (simp only [nx]; first | done | omega)) only [go_sem, q0, q5, q6, Nat.zero_add, hcs2, lw, hdl, w1, w2]; (repeat with_reducible refine aI ?_))
        have e1 : (keepN p l (i0 + 1 + (i + 1))).length = (keepN p l (i0 + 1 + i)).length + 1 := by rw [show i0 + 1 + (i + 1) = i0 + 1 + i + 1 by omega, keepN_succ hlt2, if_neg (by rw [hp]; simp), List.length_append]; rfl
        have e2 : dcur p l (i0 + 1 + (i + 1)) = (dcur p l (i0 + 1 + i)).set (keepN p l (i0 + 1 + i)).length l[i0 + 1 + i] := dcur_put hlt2 hp
        refine ⟨by omega, ?_, by omega, ?_, ?_⟩
        · show (St.set _ k (Ob.box 44 (flat ((dcur p l (i0 + 1 + (i + 1))).map encH) ++ zs))).Sub _
          have key := splice_flat' (es := (dcur p l (i0 + 1 + i)).map encH) (zs := zs) (z := 32) (i := (keepN p l (i0 + 1 + i)).length) (y := encH l[i0 + 1 + i]) (by rw [List.length_map]; omega) (wHs _) (width_encH _)
          rw [cells_encH] at key
          rw [key, e2, List.map_set]
          exact sub_tmp1 hS hn hlt
        · (first | (simp (disch := first | decide | omega | (simp only [nx]; first | done | omega)) only [go_sem, w1]; first | done | rfl) | rfl)
        · rw [e1]; (first | (simp (disch := first | decide | omega | (simp only [nx]; first | done | omega)) only [go_sem, w2]; first | done | rfl) | rfl)
    · have b2 : decide (((i0 + 1 + i : Nat) : Int) < ((l.length : Nat) : Int)) = false := decide_eq_false (by omega)
      (simp (disch := first | decide | omega | (simp only [nx]; first | done | omega)) only [go_sem, q0, q5, q6, b2]; (repeat with_reducible refine aI ?_))
      have hie : i0 + 1 + i = l.length := by omega
      have hpe : keepN p l (i0 + 1 + i) = l.filter fun x => !p x := by rw [hie, keepN, List.take_length]
      have hpl := List.length_filter_le (fun x => !p x) l
      have hmul : (l.length - (l.filter fun x => !p x).length) * 32 + (l.filter fun x => !p x).length * 32 = l.length * 32 := by rw [← Nat.add_mul]; congr 1; omega
      have hcc := hcs2
      rw [List.length_append, flatHs_len, hdl] at hcc
      rw [hpe] at hkl2 ⊢
      rw [winOff_lt (by omega), Nat.zero_add]
      refine dclear_win elHs zeHs zoHs (bt := 44) (cs := flat ((dcur p l (i0 + 1 + i)).map encH) ++ zs) (by (first | (simp (disch := first | decide | omega | (simp only [nx]; first | done | omega)) only [go_sem]; first | done | rfl) | rfl)) (by rw [szHs, hcs2]; omega) fun z2 hz2 => ?_
      rw [szHs] at hz2
      have e5 : flat ((dcur p l (i0 + 1 + i)).map encH) = flat ((l.filter fun x => !p x).map encH) ++ flat ((l.drop (l.filter fun x => !p x).length).map encH) := by rw [dcur, hpe, List.map_append, flat_append]
      rw [e5, List.append_assoc, splice_at (by rw [flatHs_len])]
      (simp (disch := first | decide | omega | (simp only [nx]; first | done | omega)) only [go_sem, q0, q5, hpe, winOff_zero]; (repeat with_reducible refine aI ?_))
      refine ⟨z2 ++ List.drop z2.length (flat (List.map encH (List.drop (l.filter fun x => !p x).length l)) ++ zs), ⟨?_, ?_, ?_⟩, by omega, ?_⟩
      · rw [ownOb_box (by omega)]
        simp only [St.set, if_true, List.append_assoc]
      · have h3 := flatHs_len (l.drop (l.filter fun x => !p x).length)
        rw [List.length_drop] at h3
        simp only [List.length_append, List.length_drop, flatHs_len] at hcc ⊢
        omega
      · show k < tn
        omega
      · intro j o hj h
        simp only [St.set, if_neg hj]
        exact h
  · have hany' : l.any p = false := by simpa using hany
    have e0 : ixOf p l = -1 := by rw [ixOf, if_neg hany]
    have e1 : (l.filter fun x => !p x) = l := List.filter_eq_self.2 fun x hx => by
      have := List.any_eq_false.1 hany' x hx
      simpa using this
    rw [e0, e1]
    have b1 : ((-1 : Int) == -1) = true := by decide
    (simp (disch := first | decide | omega | (simp only [nx]; first | done | omega)) only [go_sem, b1]; (repeat with_reducible refine aI ?_))
    refine ⟨zs, ?_⟩
    first | exact ⟨rfl, ho, Nat.le_refl _, fun _ _ _ h => h⟩ | exact ⟨ho, Nat.le_refl _, fun _ _ _ h => h⟩
end
end Go.Proofs.Ytonncfminojejaa

namespace Go.Proofs.Ytonncfminojejaa
open Go.RowKit Go.Extern.Stop Go.Stop Go.Extern
abbrev erD (n : Int) : D := .ifc 51 (.v (.int .i64 n))
section
variable {P : Program} {S : St} {K : D → St → Prop}
end
section
variable {S : St} {K : D → St → Prop} {u : D}
end
section
variable {S : St} {K : D → St → Prop}
end

end Go.Proofs.Ytonncfminojejaa

namespace Go.Proofs.Ytonncfminojejaa
open Go.RowKit
def gsCs (g : DGst) : List D := g.n.1.map bD ++ [.sl .no (g.b.map bD), .sl .no (g.lk.map encH)]
def encG (g : DGst) : D := .agg (gsCs g)
theorem cells_encG (g : DGst) : (encG g).cells = gsCs g := rfl
theorem len_gsCs (g : DGst) : (gsCs g).length = 34 := by simp [gsCs, g.n.2]
theorem width_encG (g : DGst) : (encG g).width = 34 := len_gsCs g
theorem okCell_encG (g : DGst) : (encG g).okCell = true := rfl
theorem take_gsCs (g : DGst) : (gsCs g).take 34 = gsCs g := List.take_of_length_le (by rw [len_gsCs]; omega)
theorem agg_gsCs (g : DGst) : D.agg (gsCs g) = encG g := rfl
theorem name_gsCs (g : DGst) : (gsCs g).take 32 = g.n.1.map bD := by
  rw [gsCs, List.take_append_of_le_length (by rw [len_encH]; omega), take_hash]
theorem b_gsCs (g : DGst) : (gsCs g).getD 32 undefD = .sl .no (g.b.map bD) := by
  rw [gsCs, List.getD_eq_getElem?_getD, List.getElem?_append_right (by rw [len_encH]; omega), len_encH]; rfl
theorem lk_gsCs (g : DGst) : (gsCs g).getD 33 undefD = .sl .no (g.lk.map encH) := by
  rw [gsCs, List.getD_eq_getElem?_getD, List.getElem?_append_right (by rw [len_encH]; omega), len_encH]; rfl
theorem set_gsCs (g : DGst) (lk : List H32) : (gsCs g).take 33 ++ [.sl .no (lk.map encH)] ++ (gsCs g).drop 34 = gsCs ⟨g.n, g.b, lk⟩ := by
  have e : gsCs g = (g.n.1.map bD ++ [.sl .no (g.b.map bD)]) ++ [.sl .no (g.lk.map encH)] := by simp [gsCs]
  have hl : (g.n.1.map bD ++ [D.sl .no (g.b.map bD)]).length = 33 := by rw [List.length_append, len_encH]; rfl
  rw [List.drop_of_length_le (by rw [len_gsCs]; omega), List.append_nil, e, List.take_append_of_le_length (by omega), List.take_of_length_le (by omega)]
  simp [gsCs]
attribute [go_sem] cells_encG len_gsCs width_encG okCell_encG take_gsCs agg_gsCs name_gsCs b_gsCs lk_gsCs
theorem elGs : elT Try.prog 78 = some 83 := by kernel_rfl
theorem szGs : szOf Try.prog 83 = 34 := by kernel_rfl
theorem byGs : bytesOf Try.prog 83 = 80 := by kernel_rfl
theorem zeGs : zeroT Try.prog 83 = true := by kernel_rfl
theorem wGs (l : List DGst) : ∀ d ∈ l.map encG, d.width = 34 := fun d hd => by obtain ⟨m, _, rfl⟩ := List.mem_map.1 hd; exact width_encG m
structure RoomAt (k : Nat) (gs : List DGst) (size : Nat) (T : St) : Prop where
  ex : ∃ own, T.ob k = some (.box 80 [.sl own (gs.map encG), .v (.int .i64 ((size : Nat) : Int))]) ∧ (own = .full ∧ gs = [] ∨ ∃ g, own = .row g ∧ T.ob g = some (.row 83 gs.length))
theorem RoomAt.mono {k : Nat} {gs : List DGst} {size : Nat} {S T : St} (h : RoomAt k gs size S) (hs : ∀ j o, S.ob j = some o → T.ob j = some o) : RoomAt k gs size T := by
  obtain ⟨own, h1, h2⟩ := h.ex
  refine ⟨own, hs _ _ h1, ?_⟩
  rcases h2 with h2 | ⟨g, h3, h4⟩
  · exact .inl h2
  · exact .inr ⟨g, h3, hs _ _ h4⟩
section
set_option maxRecDepth 200000
set_option maxHeartbeats 4000000
theorem ixGuest_at {S : St} {own : Own} {l : List DGst} {g : FuncId} {fs cs : List D} (p : DGst → Bool) (hl : l.length ≤ 1000000) (hc : ∀ x ∈ l, DSt Try.prog g (fs ++ [encG x] ++ cs) S (.v (.bool (p x)))) : DAt Try.prog 69 [.sl own (l.map encG), .fn (.func g) fs cs] S (.v (.int .i64 (ixOf p l))) := by
  refine dat_of_dwpL mixed Try.func69 rfl (fun _ _ => by kernel_rfl) (rs := [.tmp 4]) rfl (by kernel_rfl) (by trivial) (fun hS => ?_)
  (simp (disch := first | decide | omega | (simp only [nx]; first | done | omega)) only [go_sem]; (repeat with_reducible refine aI ?_))
  (refine dloop_st (fun t => List.contains [4, 5, 8, 9, 10, 11, 12, 13, 14, 15, 16, 17, 18] t) (by kernel_rfl) ?_ (l.length) (fun i f => i ≤ l.length ∧ f 8 = .v (.int .i64 (i : Nat)) ∧ (∀ j (h : j < l.length), j < i → p l[j] = false)) ?_ ?_; (exact (by (repeat' first | assumption | refine St.WF.leave ?_ _ | refine St.WF.add ?_ _ | refine St.WF.set ?_ ?_ _ | refine St.WF.grow ?_ _ _ _ | refine St.WF.keep ?_ ?_ | (first | omega | (simp only [RowOk.lo, nx]; first | done | omega))))); (exact ⟨(by omega), (by (first | (simp (disch := first | decide | omega | (simp only [nx]; first | done | omega)) only [go_sem]; first | done | rfl) | rfl)), (fun j _ h => absurd h (by omega))⟩); intro i g tn hn hT hg hI; obtain ⟨le, q8, hs⟩ := hI; have q0 := hg 0 rfl; have q1 := hg 1 rfl; have q7 := hg 7 rfl; simp (disch := first | decide | omega | (simp only [nx]; first | done | omega)) only [go_sem] at q0 q1 q7; clear hg; have hn' := hn; try simp only [add_next, set_next, grow_next, leave_next, drop_next] at hn')
  by_cases hlt : i < l.length
  · have b1 : decide ((i : Int) < (l.length : Int)) = true := decide_eq_true (by omega)
    have w1 : IntKind.i64.wrap ((i : Int) + 1) = ((i + 1 : Nat) : Int) := IntWalk.i64_in _ ⟨by omega, by omega⟩
    (simp (disch := first | decide | omega | (simp only [nx]; first | done | omega)) only [go_sem, q0, q1, q7, q8, b1, hlt]; (repeat with_reducible refine aI ?_))
    refine go_at (hc l[i] (List.getElem_mem _) ⟨tn, S.ob⟩ hn (fun _ _ h => h)) ?_
    cases hp : p l[i] with
    | false =>
      (simp (disch := first | decide | omega | (simp only [nx]; first | done | omega)) only [go_sem, q8, w1]; (repeat with_reducible refine aI ?_))
      refine ⟨by omega, ⟨hn, fun _ _ h => h⟩, by omega, ?_, fun j hj hji => ?_⟩
      · (first | (simp (disch := first | decide | omega | (simp only [nx]; first | done | omega)) only [go_sem, w1]; first | done | rfl) | rfl)
      · by_cases e : j = i
        · subst e; exact hp
        · exact hs j hj (by omega)
    | true =>
      (simp (disch := first | decide | omega | (simp only [nx]; first | done | omega)) only [go_sem]; (repeat with_reducible refine aI ?_))
      refine ⟨?_, ⟨hn, fun _ _ h => h⟩⟩
      rw [ixOf_at hlt hp hs]
      rfl
  · have b1 : decide ((i : Int) < (l.length : Int)) = false := decide_eq_false (by omega)
    (simp (disch := first | decide | omega | (simp only [nx]; first | done | omega)) only [go_sem, q7, q8, b1]; (repeat with_reducible refine aI ?_))
    refine ⟨?_, ⟨hn, fun _ _ h => h⟩⟩
    rw [ixOf_none fun j hj => hs j hj (by omega)]
    rfl
theorem anyGuest_at {S : St} {own : Own} {l : List DGst} {g : FuncId} {fs cs : List D} (p : DGst → Bool) (hl : l.length ≤ 1000000) (hc : ∀ x ∈ l, DSt Try.prog g (fs ++ [encG x] ++ cs) S (.v (.bool (p x)))) : DAt Try.prog 60 [.sl own (l.map encG), .fn (.func g) fs cs] S (.v (.bool (l.any p))) := by
  refine dat_of_dwpL mixed Try.func60 rfl (fun _ _ => by kernel_rfl) (rs := [.tmp 4]) rfl (by kernel_rfl) (by trivial) (fun hS => ?_)
  (simp (disch := first | decide | omega | (simp only [nx]; first | done | omega)) only [go_sem]; (repeat with_reducible refine aI ?_))
  refine go_at (ixGuest_at p hl hc) ?_
  (simp (disch := first | decide | omega | (simp only [nx]; first | done | omega)) only [go_sem, ixOf_any]; (repeat with_reducible refine aI ?_))
  refine ⟨?_, (by (repeat' first | assumption | exact St.Sub.refl _ | exact RowOk.sub (by assumption) (by assumption) | refine St.Sub.trans ?_ (RowOk.sub (by assumption) (by assumption)) | refine St.Sub.add ?_ ?_ _ | refine St.Sub.set ?_ ?_ ?_ _ | refine St.Sub.keep ?_ ?_ | refine St.WF.leave ?_ _ | refine St.WF.add ?_ _ | refine St.WF.set ?_ ?_ _ | refine St.WF.grow ?_ _ _ _ | refine St.WF.keep ?_ ?_ | (first | omega | (simp only [RowOk.lo, nx]; first | done | omega))))⟩
  rfl
theorem all_at {T : St} {k : Nat} {own : Own} {gs : List DGst} {x : D} (h : T.ob k = some (.box 80 [.sl own (gs.map encG), x])) : DCalls Try.prog 58 [.loc k 0] T fun d T' => d = .sl own (gs.map encG) ∧ T' = T := by
  refine dcalls_inline mixed Try.func58 rfl (fun _ _ => by kernel_rfl) (rs := [.tmp 2]) rfl (by kernel_rfl) (fun hS => ?_)
  (simp (disch := first | decide | omega | (simp only [nx]; first | done | omega)) only [go_sem, h]; (repeat with_reducible refine aI ?_))
theorem has1_at {T : St} {kh : Nat} {h : H32} (hk : T.ob kh = some (.box 44 (h.1.map bD))) (g : DGst) : DAt Try.prog 61 [encG g, .loc kh 0] T (.v (.bool (decide (g.n = h)))) := by
  refine dat_of_dwpL mixed Try.func61 rfl (fun _ _ => by kernel_rfl) (rs := [.tmp 3]) rfl (by kernel_rfl) (by trivial) (fun hS => ?_)
  have lh := h.2
  have hkl := hS.lt hk
  (simp (disch := first | decide | omega | (simp only [nx]; first | done | omega)) only [go_sem, hk, lh]; (repeat with_reducible refine aI ?_))
  refine ⟨?_, (by (repeat' first | assumption | exact St.Sub.refl _ | exact RowOk.sub (by assumption) (by assumption) | refine St.Sub.trans ?_ (RowOk.sub (by assumption) (by assumption)) | refine St.Sub.add ?_ ?_ _ | refine St.Sub.set ?_ ?_ ?_ _ | refine St.Sub.keep ?_ ?_ | refine St.WF.leave ?_ _ | refine St.WF.add ?_ _ | refine St.WF.set ?_ ?_ _ | refine St.WF.grow ?_ _ _ _ | refine St.WF.keep ?_ ?_ | (first | omega | (simp only [RowOk.lo, nx]; first | done | omega))))⟩
  rfl
theorem has_at {T : St} {k : Nat} {gs : List DGst} {size : Nat} (hr : RoomAt k gs size T) (hl : gs.length ≤ 1000000) (h : H32) : DAt Try.prog 42 [.loc k 0, encH h] T (.v (.bool (hasG gs h))) := by
  refine dat_of_dwpL mixed Try.func42 rfl (fun _ _ => by kernel_rfl) (rs := [.tmp 4]) rfl (by kernel_rfl) (by trivial) (fun hS => ?_)
  obtain ⟨own, h1, _⟩ := hr.ex
  have hkl := hS.lt h1
  (simp (disch := first | decide | omega | (simp only [nx]; first | done | omega)) only [go_sem]; (repeat with_reducible refine aI ?_))
  refine (all_at (x := .v (.int .i64 ((size : Nat) : Int))) (own := own) (gs := gs) (T := T.add (.box 44 (h.1.map bD))) (by (first | (simp (disch := first | decide | omega | (simp only [nx]; first | done | omega)) only [go_sem, h1]; first | done | rfl) | rfl))).mono ?_
  rintro d T' ⟨rfl, rfl⟩
  (simp (disch := first | decide | omega | (simp only [nx]; first | done | omega)) only [go_sem]; (repeat with_reducible refine aI ?_))
  refine go_at (anyGuest_at (fun g => decide (g.n = h)) hl fun x _ U hU hob => ?_) ?_
  · exact has1_at (hob _ _ (by (first | (simp (disch := first | decide | omega | (simp only [nx]; first | done | omega)) only [go_sem]; first | done | rfl) | rfl))) x
  (simp (disch := first | decide | omega | (simp only [nx]; first | done | omega)) only [go_sem]; (repeat with_reducible refine aI ?_))
  refine ⟨?_, (by (repeat' first | assumption | exact St.Sub.refl _ | exact RowOk.sub (by assumption) (by assumption) | refine St.Sub.trans ?_ (RowOk.sub (by assumption) (by assumption)) | refine St.Sub.add ?_ ?_ _ | refine St.Sub.set ?_ ?_ ?_ _ | refine St.Sub.keep ?_ ?_ | refine St.WF.leave ?_ _ | refine St.WF.add ?_ _ | refine St.WF.set ?_ ?_ _ | refine St.WF.grow ?_ _ _ _ | refine St.WF.keep ?_ ?_ | (first | omega | (simp only [RowOk.lo, nx]; first | done | omega))))⟩
  rfl
theorem len_at {T : St} {k : Nat} {gs : List DGst} {size : Nat} (hr : RoomAt k gs size T) : DAt Try.prog 41 [.loc k 0] T (.v (.int .i64 (gs.length : Int))) := by
  refine dat_of_dwpL mixed Try.func41 rfl (fun _ _ => by kernel_rfl) (rs := [.tmp 2]) rfl (by kernel_rfl) (by trivial) (fun hS => ?_)
  obtain ⟨own, h1, _⟩ := hr.ex
  have hkl := hS.lt h1
  (simp (disch := first | decide | omega | (simp only [nx]; first | done | omega)) only [go_sem]; (repeat with_reducible refine aI ?_))
  refine (all_at (x := .v (.int .i64 ((size : Nat) : Int))) (own := own) (gs := gs) h1).mono ?_
  rintro d T' ⟨rfl, rfl⟩
  (simp (disch := first | decide | omega | (simp only [nx]; first | done | omega)) only [go_sem]; (repeat with_reducible refine aI ?_))
  refine ⟨?_, (by (repeat' first | assumption | exact St.Sub.refl _ | exact RowOk.sub (by assumption) (by assumption) | refine St.Sub.trans ?_ (RowOk.sub (by assumption) (by assumption)) | refine St.Sub.add ?_ ?_ _ | refine St.Sub.set ?_ ?_ ?_ _ | refine St.Sub.keep ?_ ?_ | refine St.WF.leave ?_ _ | refine St.WF.add ?_ _ | refine St.WF.set ?_ ?_ _ | refine St.WF.grow ?_ _ _ _ | refine St.WF.keep ?_ ?_ | (first | omega | (simp only [RowOk.lo, nx]; first | done | omega))))⟩
  rfl
end
end Go.Proofs.Ytonncfminojejaa

namespace Go.Proofs.Ytonncfminojejaa
open Go.RowKit
theorem dat_ownH {g : FuncId} {args : List D} {S : St} {l : List H32} (h : S.WF → DCalls Try.prog g args S fun d T => ∃ k c zs, d = .win k 0 l.length c ∧ S.next ≤ k ∧ OwnH T k c zs l ∧ S.Sub T) : DAt Try.prog g args S (.sl .no (l.map encH)) := fun base η w vs hM hr =>
  calls_fin ((h hM.fresh).mono fun d T ⟨k, c, zs, e, hk, ho, hs⟩ => ⟨T.drop k, .sl .no (l.map encH), by
    subst e
    refine thawH ho ?_
    simp only [D.thaw, List.length_map, Nat.beq_refl, Bool.and_self, cond_true], fin_same hM.fresh (closed_Hs l) ⟨hs.next, fun j o hj => by
    have := St.WF.lt (S := S) hM.fresh hj
    simp only [St.drop]
    rw [if_neg (by omega)]
    exact hs.ob j o hj⟩⟩) base η w vs hM hr
theorem lacks_succ {gs : List DGst} {i : Nat} (h : i < gs.length) : (gs.take (i + 1)).flatMap (·.lk) = (gs.take i).flatMap (·.lk) ++ gs[i].lk := by
  rw [List.take_succ_eq_append_getElem h, List.flatMap_append]
  simp
theorem lacks_le (gs : List DGst) (i : Nat) : ((gs.take i).flatMap (·.lk)).length ≤ (gs.flatMap (·.lk)).length := by
  conv => rhs; rw [← List.take_append_drop i gs, List.flatMap_append, List.length_append]
  omega
section
set_option maxRecDepth 200000
set_option maxHeartbeats 4000000
theorem missing_at {T : St} {k : Nat} {gs : List DGst} {size : Nat} (hrm : RoomAt k gs size T) (hl : gs.length ≤ 1000000) (hll : (gs.flatMap (·.lk)).length ≤ 1000000) : DAt Try.prog 40 [.loc k 0] T (.sl .no ((missG gs).map encH)) := by
  refine dat_ownH fun hT0 => ?_
  obtain ⟨own, h1, _⟩ := hrm.ex
  have hkl := hT0.lt h1
  refine dcalls_inline mixed Try.func40 rfl (fun _ _ => by kernel_rfl) (rs := [.tmp 2]) rfl (by kernel_rfl) (fun hS => ?_)
  (simp (disch := first | decide | omega | (simp only [nx]; first | done | omega)) only [go_sem]; (repeat with_reducible refine aI ?_))
  refine (all_at (x := .v (.int .i64 ((size : Nat) : Int))) (own := own) (gs := gs) h1).mono ?_
  rintro d T' ⟨rfl, rfl⟩
  (simp (disch := first | decide | omega | (simp only [nx]; first | done | omega)) only [go_sem]; (repeat with_reducible refine aI ?_))
  (refine dloop_row (fun t => List.contains [3, 5, 9, 10, 11, 12, 13, 14, 15, 16, 17] t) (by kernel_rfl) ?_ (gs.length) (44) (fun i own m f => i ≤ gs.length ∧ f 9 = .v (.int .i64 (i : Nat)) ∧ f 3 = .sl own (((gs.take i).flatMap (·.lk)).map encH) ∧ (own = .full ∨ m = ((gs.take i).flatMap (·.lk)).length)) ?_ ?_; (exact (by (repeat' first | assumption | refine St.WF.leave ?_ _ | refine St.WF.add ?_ _ | refine St.WF.set ?_ ?_ _ | refine St.WF.grow ?_ _ _ _ | refine St.WF.keep ?_ ?_ | (first | omega | (simp only [RowOk.lo, nx]; first | done | omega))))); (exact ⟨(by omega), (by (first | (simp (disch := first | decide | omega | (simp only [nx]; first | done | omega)) only [go_sem]; first | done | rfl) | rfl)), (by (first | (simp (disch := first | decide | omega | (simp only [nx]; first | done | omega)) only [go_sem]; first | done | rfl) | rfl)), (.inl rfl)⟩); intro i g tn own m hn hr hT hg hI; obtain ⟨le, q9, q3, hm⟩ := hI; have q0 := hg 0 rfl; have q2 := hg 2 rfl; have q7 := hg 7 rfl; have q8 := hg 8 rfl; simp (disch := first | decide | omega | (simp only [nx]; first | done | omega)) only [go_sem] at q0 q2 q7 q8; clear hg; have hn' := hn; try simp only [add_next, set_next, grow_next, leave_next, drop_next] at hn')
  have hle := lacks_le gs i
  by_cases hlt : i < gs.length
  · have b1 : decide ((i : Int) < (gs.length : Int)) = true := decide_eq_true (by omega)
    have w1 : IntKind.i64.wrap ((i : Int) + 1) = ((i + 1 : Nat) : Int) := IntWalk.i64_in _ ⟨by omega, by omega⟩
    have hro := fun {e m k} => rowOf_lt hr (e := e) (m := m) (k := k)
    have hle2 := lacks_le gs (i + 1)
    rw [lacks_succ hlt, List.length_append] at hle2
    (simp (disch := first | decide | omega | (simp only [nx]; first | done | omega)) only [go_sem, q0, q3, q7, q8, q9, b1, hlt, hro]; (repeat with_reducible refine aI ?_))
    (refine dapp_grow (by (first | (simp (disch := first | decide | omega | (simp only [nx]; first | done | omega)) only [go_sem]; first | done | rfl) | rfl)) (by (first | (simp (disch := first | decide | omega | (simp only [nx]; first | done | omega)) only [go_sem]; first | done | rfl) | rfl)) (by (first | (simp (disch := first | decide | omega | (simp only [nx]; first | done | omega)) only [go_sem]; first | done | rfl) | rfl)) (fun d hd => ?_) (fun d hd => ?_) hr (by (repeat' first | assumption | exact St.Sub.refl _ | exact RowOk.sub (by assumption) (by assumption) | refine St.Sub.trans ?_ (RowOk.sub (by assumption) (by assumption)) | refine St.Sub.add ?_ ?_ _ | refine St.Sub.set ?_ ?_ ?_ _ | refine St.Sub.keep ?_ ?_ | refine St.WF.leave ?_ _ | refine St.WF.add ?_ _ | refine St.WF.set ?_ ?_ _ | refine St.WF.grow ?_ _ _ _ | refine St.WF.keep ?_ ?_ | (first | omega | (simp only [RowOk.lo, nx]; first | done | omega)))) ?_ ?_ ?_ ?_; (exact (by first | (simp (disch := first | decide | omega | (simp only [nx]; first | done | omega)) only [go_sem]; done) | (simp (disch := first | decide | omega | (simp only [nx]; first | done | omega)) only [go_sem]; exact (by obtain ⟨q, _, rfl⟩ := List.mem_map.1 hd; exact width_encH q)))); (exact (by first | (simp (disch := first | decide | omega | (simp only [nx]; first | done | omega)) only [go_sem]; done) | (simp (disch := first | decide | omega | (simp only [nx]; first | done | omega)) only [go_sem]; exact (by obtain ⟨q, _, rfl⟩ := List.mem_map.1 hd; exact width_encH q)))); (exact (by rw [List.length_map]; exact hm)))
    · simp only [List.length_map]; omega
    · simp (disch := first | decide | omega | (simp only [nx]; first | done | omega)) only [go_sem]; omega
    (simp (disch := first | decide | omega | (simp only [nx]; first | done | omega)) only [go_sem, q0, q3, q7, q8, q9, w1]; (repeat with_reducible refine aI ?_))
    (refine ⟨by omega, _, _, RowNext.grow (m := m) ?_ ?_ hr hn ?_ (St.Sub.refl _), ?_⟩; (exact (by (repeat' first | assumption | refine St.WF.leave ?_ _ | refine St.WF.add ?_ _ | refine St.WF.set ?_ ?_ _ | refine St.WF.grow ?_ _ _ _ | refine St.WF.keep ?_ ?_ | (first | omega | (simp only [RowOk.lo, nx]; first | done | omega))))); (exact (by (first | omega | (simp only [RowOk.lo, nx]; first | done | omega)))); (exact (by (repeat' first | assumption | exact St.Sub.refl _ | exact RowOk.sub (by assumption) (by assumption) | refine St.Sub.trans ?_ (RowOk.sub (by assumption) (by assumption)) | refine St.Sub.add ?_ ?_ _ | refine St.Sub.set ?_ ?_ ?_ _ | refine St.Sub.keep ?_ ?_ | refine St.WF.leave ?_ _ | refine St.WF.add ?_ _ | refine St.WF.set ?_ ?_ _ | refine St.WF.grow ?_ _ _ _ | refine St.WF.keep ?_ ?_ | (first | omega | (simp only [RowOk.lo, nx]; first | done | omega))))); refine ⟨by omega, ?_, ?_, ?_⟩; all_goals (try (first | (simp (disch := first | decide | omega | (simp only [nx]; first | done | omega)) only [go_sem, w1]; first | done | rfl) | rfl)))
    · rw [lacks_succ hlt, List.map_append]; rfl
    · exact .inr (by rw [lacks_succ hlt, List.length_append])
  · have b1 : decide ((i : Int) < (gs.length : Int)) = false := decide_eq_false (by omega)
    have hrb : rowOf T' own 44 m k = T'.ob k := rowOf_lt hr hkl
    have hie : gs.take i = gs := List.take_of_length_le (by omega)
    rw [hie] at q3
    have hsub := RowOk.sub (e := 44) (m := m) hr hn
    (simp (disch := first | decide | omega | (simp only [nx]; first | done | omega)) only [go_sem, q0, q3, q8, q9, b1]; (repeat with_reducible refine aI ?_))
    refine DCalls.mono (hsort_w own (gs.flatMap (·.lk)) hll) ?_
    rintro d U ⟨k0, c, zs, rfl, hk0, hoU, hsU⟩
    (simp (disch := first | decide | omega | (simp only [nx]; first | done | omega)) only [go_sem, q0]; (repeat with_reducible refine aI ?_))
    have hkeep : ∀ j o, T'.ob j = some o → U.ob j = some o ∧ j ≠ k0 := fun j o e => by
      have h2 := hsub.ob j o e
      have hj := (show (St.mk tn (rowOf T' own 44 m)).WF from hT).lt h2
      have hj' : j < tn := hj
      have hk0' : tn ≤ k0 := hk0
      exact ⟨hsU.ob j o h2, by omega⟩
    have key := deleteH_w (S := U) (k := k0) (c := c) (zs := zs) (l := sortH (gs.flatMap (·.lk))) (g := 42) (fs := [.loc k 0]) (hasG gs) hoU (Nat.le_trans (sortH_len _) hll) fun x V hV hVw hVo => by
      have hrV : RoomAt k gs size V := hrm.mono fun j o e => hVo j o (hkeep j o e).2 (hkeep j o e).1
      exact has_at hrV hl x
    refine DCalls.mono key ?_
    rintro d V ⟨zs', rfl, hoV, hnV, hfV⟩
    (simp (disch := first | decide | omega | (simp only [nx]; first | done | omega)) only [go_sem]; (repeat with_reducible refine aI ?_))
    exact ⟨k0, c, zs', rfl, by have : tn ≤ k0 := hk0; omega, hoV, ⟨by have := hsU.next; have : tn ≤ U.next := this; omega, fun j o e => hfV j o (hkeep j o e).2 (hkeep j o e).1⟩⟩
theorem ixH_d (own : Own) (l : List H32) (h : H32) (hl : l.length ≤ 1000000) : DPure Try.prog 45 [.sl own (l.map encH), encH h] (.v (.int .i64 (ixOf (fun x => decide (h = x)) l))) := by
  refine dpure_of_dwp mixed Try.func45 rfl (fun _ _ => by kernel_rfl) (rs := [.tmp 4]) rfl (by kernel_rfl) trivial (fun S hS => ?_)
  (simp (disch := first | decide | omega | (simp only [nx]; first | done | omega)) only [go_sem]; (repeat with_reducible refine aI ?_))
  have lh := h.2
  (refine dloop_st (fun t => List.contains [4, 5, 8, 9, 10, 11, 12, 13, 14, 15, 16, 17, 18] t) (by kernel_rfl) ?_ (l.length) (fun i f => i ≤ l.length ∧ f 8 = .v (.int .i64 (i : Nat)) ∧ (∀ j (h' : j < l.length), j < i → decide (h = l[j]) = false)) ?_ ?_; (exact (by (repeat' first | assumption | refine St.WF.leave ?_ _ | refine St.WF.add ?_ _ | refine St.WF.set ?_ ?_ _ | refine St.WF.grow ?_ _ _ _ | refine St.WF.keep ?_ ?_ | (first | omega | (simp only [RowOk.lo, nx]; first | done | omega))))); (exact ⟨(by omega), (by (first | (simp (disch := first | decide | omega | (simp only [nx]; first | done | omega)) only [go_sem]; first | done | rfl) | rfl)), (fun j _ h => absurd h (by omega))⟩); intro i g tn hn hT hg hI; obtain ⟨le, q8, hs⟩ := hI; have q0 := hg 0 rfl; have q3 := hg 3 rfl; have q7 := hg 7 rfl; simp (disch := first | decide | omega | (simp only [nx]; first | done | omega)) only [go_sem] at q0 q3 q7; clear hg; have hn' := hn; try simp only [add_next, set_next, grow_next, leave_next, drop_next] at hn')
  have hob : (⟨tn, (S.add (.box 44 (h.1.map bD))).ob⟩ : St).ob S.next = some (.box 44 (h.1.map bD)) := by (first | (simp (disch := first | decide | omega | (simp only [nx]; first | done | omega)) only [go_sem]; first | done | rfl) | rfl)
  by_cases hlt : i < l.length
  · have b1 : decide ((i : Int) < (l.length : Int)) = true := decide_eq_true (by omega)
    have w1 : IntKind.i64.wrap ((i : Int) + 1) = ((i + 1 : Nat) : Int) := IntWalk.i64_in _ ⟨by omega, by omega⟩
    have la := l[i].2
    (simp (disch := first | decide | omega | (simp only [nx]; first | done | omega)) only [go_sem, q0, q3, q7, q8, b1, hlt]; (repeat with_reducible refine aI ?_))
    refine ddraw_mk 6 (by kernel_rfl) ?_
    (simp (disch := first | decide | omega | (simp only [nx]; first | done | omega)) only [go_sem, q0, q3, q7, q8, b1, hlt, la, lh]; (repeat with_reducible refine aI ?_))
    cases hp : decide (h = l[i]) with
    | false =>
      (simp (disch := first | decide | omega | (simp only [nx]; first | done | omega)) only [go_sem, q8, w1]; (repeat with_reducible refine aI ?_))
      refine ⟨by omega, ⟨hn, fun _ _ h => h⟩, by omega, ?_, fun j hj hji => ?_⟩
      · (first | (simp (disch := first | decide | omega | (simp only [nx]; first | done | omega)) only [go_sem, w1]; first | done | rfl) | rfl)
      · by_cases e : j = i
        · subst e; exact hp
        · exact hs j hj (by omega)
    | true =>
      (simp (disch := first | decide | omega | (simp only [nx]; first | done | omega)) only [go_sem]; (repeat with_reducible refine aI ?_))
      refine ⟨?_, (by (repeat' first | assumption | exact St.Sub.refl _ | exact RowOk.sub (by assumption) (by assumption) | refine St.Sub.trans ?_ (RowOk.sub (by assumption) (by assumption)) | refine St.Sub.add ?_ ?_ _ | refine St.Sub.set ?_ ?_ ?_ _ | refine St.Sub.keep ?_ ?_ | refine St.WF.leave ?_ _ | refine St.WF.add ?_ _ | refine St.WF.set ?_ ?_ _ | refine St.WF.grow ?_ _ _ _ | refine St.WF.keep ?_ ?_ | (first | omega | (simp only [RowOk.lo, nx]; first | done | omega))))⟩
      rw [ixOf_at hlt hp hs]
      rfl
  · have b1 : decide ((i : Int) < (l.length : Int)) = false := decide_eq_false (by omega)
    (simp (disch := first | decide | omega | (simp only [nx]; first | done | omega)) only [go_sem, q7, q8, b1]; (repeat with_reducible refine aI ?_))
    refine ⟨?_, (by (repeat' first | assumption | exact St.Sub.refl _ | exact RowOk.sub (by assumption) (by assumption) | refine St.Sub.trans ?_ (RowOk.sub (by assumption) (by assumption)) | refine St.Sub.add ?_ ?_ _ | refine St.Sub.set ?_ ?_ ?_ _ | refine St.Sub.keep ?_ ?_ | refine St.WF.leave ?_ _ | refine St.WF.add ?_ _ | refine St.WF.set ?_ ?_ _ | refine St.WF.grow ?_ _ _ _ | refine St.WF.keep ?_ ?_ | (first | omega | (simp only [RowOk.lo, nx]; first | done | omega))))⟩
    rw [ixOf_none fun j hj => hs j hj (by omega)]
    rfl
theorem dcalls_nilwin {P : Program} {g : FuncId} {args : List D} {S : St} {K : D → St → Prop} (e : TypeId) (h : DCalls P g (.win S.next 0 0 0 :: args) (S.add (.row e 0)) K) : DCalls P g (.sl .full [] :: args) S K := fun base η w vs hM hr => by
  simp only [RepL] at hr
  obtain ⟨x, xs, rfl, hx, hxs⟩ := hr
  obtain ⟨η', G, hx'⟩ := thaw_nil e base η w x hM hx
  have hr' : RepL P w η' (Fix P (S.add (.row e 0)) η') (.win S.next 0 0 0 :: args) (x :: xs) := by
    simp only [RepL]
    exact ⟨x, xs, rfl, hx', G.repL hxs⟩
  rcases h base η' w _ G.mem hr' with ⟨h1, h2⟩ | ⟨d, S', η2, v, w', h1, h2, h3, h4⟩
  · exact .inl ⟨h1, h2.mono fun _ _ ⟨d, S', η2, v, k1, k2, k3, k4⟩ => ⟨d, S', η2, v, k1, k2, k3, G.trans k4⟩⟩
  · exact .inr ⟨d, S', η2, v, w', h1, h2, h3, G.trans h4⟩
structure GrH (S T : St) (out : List H32) (d : D) : Prop where
  own : OwnD Try.prog T 44 (out.map encH) d
  lo : ∀ k o n c, d = .win k o n c → S.next ≤ k
  sub : S.Sub T
theorem grH_app {S T : St} {out b : List H32} {d : D} {o2 : Own} {K : D → St → Prop} (hS : S.WF) (h : GrH S T out d) (hl : out.length + b.length ≤ 2000000)
    (k : ∀ (c' : Nat) (zs' : List D), GrH S ((T.left d).add (ownOb 44 ((out ++ b).map encH) zs' c')) (out ++ b) (.win T.next 0 (out.length + b.length) c') → (T.left d).next = T.next → K (.win T.next 0 (out.length + b.length) c') ((T.left d).add (ownOb 44 ((out ++ b).map encH) zs' c'))) :
    dapp Try.prog T 23 23 23 d (.sl o2 (b.map encH)) K := by
  refine dapp_ownD elHs (by rw [elHs]; rfl) zeHs zoHs h.own (by rw [szHs]; exact wHs out) (es2 := b.map encH) (by rw [szHs]; exact wHs b) (by rw [List.length_map, List.length_map]; omega) (by rw [List.length_map, List.length_map, byHs]; omega) fun c' zs' h1 => ?_
  have e : out.map encH ++ b.map encH = (out ++ b).map encH := by simp
  rw [e] at h1 ⊢
  have hsub := OwnD.sub hS h.sub h.own h.lo
  rw [List.length_map, List.length_map]
  refine k c' zs' ⟨.inr ⟨T.next, c', zs', by rw [List.length_map, List.length_append], ?_, h1, ?_⟩, fun k o n c hk => ?_, ?_⟩ (left_next T d)
  · show (if T.next = (T.left d).next then _ else _) = _
    rw [left_next, if_pos rfl]
  · show T.next < (T.left d).next + 1
    rw [left_next]; omega
  · injection hk with hk
    rw [← hk]
    exact h.sub.next
  · exact hsub.add hS _
theorem grow_w {S : St} (hS0 : S.WF) (n : Nat) (hn : n ≤ 1000000) : DCalls Try.prog 62 [.sl .full [], .v (.int .i64 (n : Int))] S fun d T => GrH S T [] d := by
  rcases Nat.eq_zero_or_pos n with h0 | h0
  · subst h0
    refine dcalls_inline mixed Try.func62 rfl (fun _ _ => by kernel_rfl) (rs := [.tmp 4]) rfl (by kernel_rfl) (fun hS => ?_)
    have b1 : decide ((((0 : Nat) : Int)) < 0) = false := by decide
    have b2 : decide ((0 : Int) < 0) = false := by decide
    have w1 : IntKind.i64.wrap ((0 : Int) - 0) = 0 := by decide
    have lz : (([] : List D).length : Int) = 0 := rfl
    (simp (disch := first | decide | omega | (simp only [nx]; first | done | omega)) only [go_sem, b1, b2, w1, lz, int_zero]; (repeat with_reducible refine aI ?_))
    exact ⟨.inl ⟨rfl, rfl⟩, (fun k o n c e => by cases e), St.Sub.refl S⟩
  · refine dcalls_nilwin 44 ?_
    refine dcalls_inline mixed Try.func62 rfl (fun _ _ => by kernel_rfl) (rs := [.tmp 4]) rfl (by kernel_rfl) (fun hS => ?_)
    have b1 : decide ((n : Int) < 0) = false := decide_eq_false (by omega)
    have b2 : decide ((0 : Int) < (n : Int)) = true := decide_eq_true (by omega)
    have w0 : IntKind.i64.wrap ((0 : Int) - 0) = 0 := by decide
    have w1 : IntKind.i64.wrap ((n : Int) - 0) = (n : Int) := by rw [IntKind.wrap_i64]; omega
    (simp (disch := first | decide | omega | (simp only [nx]; first | done | omega)) only [go_sem, b1, b2, w0, w1, int_zero]; (repeat with_reducible refine aI ?_))
    refine dappend_zeros elHs (kk := .i64) (by kernel_rfl) zeHs zoHs (n := 0) (c := 0) (olds := []) ⟨rfl, .inl ⟨rfl, rfl⟩⟩ (by omega) (by omega) (by omega) (by rw [byHs]; omega) fun c' zs h1 h2 => ?_
    (simp (disch := first | decide | omega | (simp only [nx]; first | done | omega)) only [go_sem, winOff_zero]; (repeat with_reducible refine aI ?_))
    have hc' : 0 < c' := by omega
    refine ⟨.inr ⟨S.next + 1, c', zs, rfl, ?_, by rw [szHs] at h2 ⊢; exact h2, ?_⟩, (fun k o n c e => by injection e with e; omega), ?_⟩
    · rw [ownOb_box hc']
      show (if S.next + 1 = S.next + 1 then _ else _) = _
      rw [if_pos rfl]
      rfl
    · show S.next + 1 < S.next + 1 + 1
      omega
    · have hS1 : S.Sub (S.add (.row 44 0)) := (St.Sub.refl S).add hS0 _
      exact hS1.add hS0 _
theorem concat_d (own o1 o2 : Own) (a b : List H32) (hl : a.length + b.length ≤ 1000000) : DPure Try.prog 46 [.sl own [.sl o1 (a.map encH), .sl o2 (b.map encH)]] (.sl .no ((a ++ b).map encH)) := dpure_ownH fun S hS0 => by
  refine DCalls.thaw ?_
  refine dcalls_inline mixed Try.func46 rfl (fun _ _ => by kernel_rfl) (rs := [.tmp 2]) rfl (by kernel_rfl) (fun hS => ?_)
  have l1 : ([.sl o1 (a.map encH), .sl o2 (b.map encH)] : List D).length = 2 := rfl
  (simp (disch := first | decide | omega | (simp only [nx]; first | done | omega)) only [go_sem, l1]; (repeat with_reducible refine aI ?_))
  refine dloop_fuel 3 hS (by kernel_rfl) ?_
  rw [loopN_eq]
  have w1 : IntKind.i64.wrap ((0 : Int) + 1) = 1 := by decide
  have w2 : IntKind.i64.wrap ((1 : Int) + 1) = 2 := by decide
  have w3 : IntKind.i64.wrap ((0 : Int) + (a.length : Int)) = (a.length : Int) := by rw [IntKind.wrap_i64]; omega
  have w4 : IntKind.i64.wrap ((a.length : Int) + (b.length : Int)) = ((a.length + b.length : Nat) : Int) := by rw [IntKind.wrap_i64]; omega
  have c1 : decide ((0 : Int) < ((2 : Nat) : Int)) = true := by decide
  have c2 : decide ((1 : Int) < ((2 : Nat) : Int)) = true := by decide
  have c3 : decide ((2 : Int) < ((2 : Nat) : Int)) = false := by decide
  have c4 : decide ((a.length : Int) < 0) = false := decide_eq_false (by omega)
  have c5 : decide (((a.length + b.length : Nat) : Int) < 0) = false := decide_eq_false (by omega)
  (simp (disch := first | decide | omega | (simp only [nx]; first | done | omega)) only [go_sem, l1, c1, w1, w3, c4]; (repeat with_reducible refine aI ?_))
  rw [loopN_eq]
  (simp (disch := first | decide | omega | (simp only [nx]; first | done | omega)) only [go_sem, l1, c2, w2, w4, c5]; (repeat with_reducible refine aI ?_))
  rw [loopN_eq]
  (simp (disch := first | decide | omega | (simp only [nx]; first | done | omega)) only [go_sem, l1, c3]; (repeat with_reducible refine aI ?_))
  refine DCalls.mono (DCalls.wf (grow_w hS0 (a.length + b.length) hl)) ?_
  rintro d T ⟨hG, hTw⟩
  (simp (disch := first | decide | omega | (simp only [nx]; first | done | omega)) only [go_sem, l1]; (repeat with_reducible refine aI ?_))
  refine dloop_fuel 3 hTw (by kernel_rfl) ?_
  rw [loopN_eq]
  (simp (disch := first | decide | omega | (simp only [nx]; first | done | omega)) only [go_sem, l1, c1]; (repeat with_reducible refine aI ?_))
  refine grH_app hS0 hG (by simp only [List.length_nil]; omega) fun c' zs' hG1 hnx1 => ?_
  (simp (disch := first | decide | omega | (simp only [nx]; first | done | omega)) only [go_sem, l1, w1]; (repeat with_reducible refine aI ?_))
  rw [loopN_eq]
  (simp (disch := first | decide | omega | (simp only [nx]; first | done | omega)) only [go_sem, l1, c2]; (repeat with_reducible refine aI ?_))
  simp only [List.nil_append, List.length_nil, Nat.zero_add] at hG1
  try simp only [List.nil_append, List.length_nil, Nat.zero_add]
  refine grH_app hS0 hG1 (by omega) fun c2' zs2' hG2 hnx2 => ?_
  (simp (disch := first | decide | omega | (simp only [nx]; first | done | omega)) only [go_sem, l1, w2]; (repeat with_reducible refine aI ?_))
  rw [loopN_eq]
  (simp (disch := first | decide | omega | (simp only [nx]; first | done | omega)) only [go_sem, l1, c3]; (repeat with_reducible refine aI ?_))
  obtain ⟨S1, k, c, zs, t1, t2, t3, t4, t5, t6⟩ := hG2.own.win
  rw [List.length_map, List.length_append] at t1
  refine ⟨S1, _, t1, k, c, zs, by rw [List.length_append], ?_, ⟨t3, t4, t5⟩, ?_⟩
  · rcases t6 with ⟨o, n, c', e⟩ | e
    · exact hG2.lo _ _ _ _ e
    · rw [e]; exact hG2.sub.next
  · rcases t2 with e | e
    · rw [e]; exact hG2.sub
    · rw [e]; exact hG2.sub.add hS0 _
theorem closed_bB (l : List UInt8) : (D.sl .no (l.map bD)).closed := by
  simp only [D.closed, D.all, Own.all, true_and]
  refine allL_iff.2 fun d hd => ?_
  obtain ⟨b, _, rfl⟩ := List.mem_map.1 hd
  simp [bD, D.all]
theorem frz_bB (l : List UInt8) : frzL (l.map bD) = l.map bD := by simp [frzL_map, bD, D.frz, Function.comp_def]
theorem elBy : elT Try.prog 29 = some 5 := by kernel_rfl
theorem szBy : szOf Try.prog 5 = 1 := by kernel_rfl
theorem byBy : bytesOf Try.prog 5 = 1 := by kernel_rfl
theorem zeBy : zeroT Try.prog 5 = true := by kernel_rfl
theorem wBy (l : List UInt8) : ∀ d ∈ l.map bD, d.width = 1 := fun d hd => by obtain ⟨x, _, rfl⟩ := List.mem_map.1 hd; rfl
theorem dcalls_emp {P : Program} {g : FuncId} {own : Own} {args : List D} {S : St} {K : D → St → Prop} (h : ∀ A c, DCalls P g (.v (.slice A 0 c) :: args) S K) : DCalls P g (.sl own [] :: args) S K := fun base η w vs hM hr => by
  simp only [RepL] at hr
  obtain ⟨x, xs, rfl, hx, hxs⟩ := hr
  simp only [Rep] at hx
  obtain ⟨A, c, rfl, _⟩ := hx
  exact h A c base η w _ hM (by simp only [RepL, Rep]; exact ⟨_, xs, rfl, rfl, hxs⟩)
theorem eqnil_by (A : Option Addr) (c : Nat) (x : Operand) : pureRun Try.prog (do eqGuard .eql 29 x (.const (.slice none 0 0)) (.slice A 0 c) (.slice none 0 0); binOp .eql 29 (.slice A 0 c) (.slice none 0 0)) = some (.bool A.isNone) := by
  cases A <;> kernel_rfl
theorem bin_nilv (A : Option Addr) (c : Nat) (x : Operand) : dbin Try.prog .eql 29 x (.const (.slice none 0 0)) (.v (.slice A 0 c)) (.sl .full []) = some (True, .v (.bool A.isNone)) := by
  rw [bin_vnil, eqnil_by]; rfl
theorem clone_d (own : Own) (l : List UInt8) (hl : l.length ≤ 1000000) : DPure Try.prog 33 [.sl own (l.map bD)] (.sl .no (l.map bD)) := by
  rcases Nat.eq_zero_or_pos l.length with h0 | h0
  · have h0' : l = [] := List.eq_nil_of_length_eq_zero h0
    subst h0'
    refine fun S => dcalls_emp fun A c => ?_
    have key : DPure Try.prog 33 [.v (.slice A 0 c)] (.sl .no []) := by
      refine dpure_of_dwp mixed Try.func33 rfl (fun _ _ => by kernel_rfl) (rs := [.tmp 2]) rfl (by kernel_rfl) (closed_bB []) (fun S hS => ?_)
      cases A with
      | none =>
        (simp (disch := first | decide | omega | (simp only [nx]; first | done | omega)) only [go_sem, bin_nilv, Option.isNone_none]; (repeat with_reducible refine aI ?_))
        refine ⟨?_, (by (repeat' first | assumption | exact St.Sub.refl _ | exact RowOk.sub (by assumption) (by assumption) | refine St.Sub.trans ?_ (RowOk.sub (by assumption) (by assumption)) | refine St.Sub.add ?_ ?_ _ | refine St.Sub.set ?_ ?_ ?_ _ | refine St.Sub.keep ?_ ?_ | refine St.WF.leave ?_ _ | refine St.WF.add ?_ _ | refine St.WF.set ?_ ?_ _ | refine St.WF.grow ?_ _ _ _ | refine St.WF.keep ?_ ?_ | (first | omega | (simp only [RowOk.lo, nx]; first | done | omega))))⟩
        rfl
      | some a =>
        (simp (disch := first | decide | omega | (simp only [nx]; first | done | omega)) only [go_sem, bin_nilv, Option.isNone_some]; (repeat with_reducible refine aI ?_))
        refine dapp_none elBy (by rw [elBy]; rfl) (zeroT_pos zeBy).2 ?_
        (simp (disch := first | decide | omega | (simp only [nx]; first | done | omega)) only [go_sem]; (repeat with_reducible refine aI ?_))
        refine ⟨?_, (by (repeat' first | assumption | exact St.Sub.refl _ | exact RowOk.sub (by assumption) (by assumption) | refine St.Sub.trans ?_ (RowOk.sub (by assumption) (by assumption)) | refine St.Sub.add ?_ ?_ _ | refine St.Sub.set ?_ ?_ ?_ _ | refine St.Sub.keep ?_ ?_ | refine St.WF.leave ?_ _ | refine St.WF.add ?_ _ | refine St.WF.set ?_ ?_ _ | refine St.WF.grow ?_ _ _ _ | refine St.WF.keep ?_ ?_ | (first | omega | (simp only [RowOk.lo, nx]; first | done | omega))))⟩
        rfl
    exact key S
  · refine dpure_of_dwp mixed Try.func33 rfl (fun _ _ => by kernel_rfl) (rs := [.tmp 2]) rfl (by kernel_rfl) (closed_bB _) (fun S hS => ?_)
    (simp (disch := first | decide | omega | (simp only [nx]; first | done | omega)) only [go_sem]; (repeat with_reducible refine aI ?_))
    refine app_more elBy zeBy (.inl rfl) (fun _ h => by cases h) (by rw [szBy]; exact wBy l) (by simp only [List.length_nil, List.length_map]; omega) (by simp only [List.length_nil, List.length_map, byBy]; omega) ?_
    (simp (disch := first | decide | omega | (simp only [nx]; first | done | omega)) only [go_sem, List.nil_append]; (repeat with_reducible refine aI ?_))
    refine ⟨?_, St.Sub.grow (St.Sub.refl S) hS (fun _ h => by cases h) _ _⟩
    simp only [D.frz, frz_bB]
end
end Go.Proofs.Ytonncfminojejaa

namespace Go.Proofs.Ytonncfminojejaa
open Go.RowKit
section
variable {P : Program} {w : World} {η : Names} {X X' : Nat → Nat → Prop}
end
theorem dpure_nil {P : Program} {g : FuncId} {args : List D} {x : Value} (hc : allL (fun _ => False) args) (h : DAt P g args St.nil (.v x)) : DPure P g args (.v x) := fun S base η w vs hM hr => by
  have hg : GlobOk w.heap.size w := fun p hp => ⟨Nat.lt_of_lt_of_le (hM.glob p hp).1 hM.base_, (hM.glob p hp).2⟩
  have K : Keep (fun _ => False) w η (Fix P S η) w (fun _ => none) (Fix P St.nil fun _ => none) := ⟨Nat.le_refl _, fun b i _ _ => ⟨fix_nil b i, rfl⟩, fun _ _ h => h.elim, fun _ cur _ h => ⟨cur, h, rfl⟩⟩
  rcases h w.heap.size _ w vs (mem_nil w hg) (RepL.keep K hc hr) with ⟨h1, k⟩ | ⟨d, S', η', u, w', k, ⟨rfl, _⟩, h3, h4⟩
  · refine .inl ⟨h1, k.mono fun _ _ ⟨d, S', η', u, ⟨h1, _⟩, h2, h3, h4⟩ => ?_⟩
    subst h1
    simp only [Rep] at h3
    subst h3
    exact ⟨.v _, S, η, _, ⟨rfl, rfl⟩, h2, by simp only [Rep], goes_below hM h4.below h4.drawn⟩
  · simp only [Rep] at h3
    subst h3
    exact .inr ⟨.v _, S, η, _, w', k, ⟨rfl, rfl⟩, by simp only [Rep], goes_below hM h4.below h4.drawn⟩
end Go.Proofs.Ytonncfminojejaa

namespace Go.Proofs.Ytonncfminojejaa
open Go.RowKit
theorem dcalls_frz {P : Program} {g : FuncId} {args : List D} {S : St} {K K' : D → St → Prop} (h : DCalls P g args S K) (hk : ∀ d T, K d T → K' d.frz T) : DCalls P g args S K' := fun base η w vs hM hr => by
  rcases h base η w vs hM hr with ⟨h1, h2⟩ | ⟨d, S', η', v, w', h1, h2, h3, h4⟩
  · exact .inl ⟨h1, h2.mono fun _ _ ⟨d, S', η', v, h1, h2, h3, h4⟩ => ⟨d.frz, S', η', v, hk _ _ h1, h2, h3.frz, h4⟩⟩
  · exact .inr ⟨d.frz, S', η', v, w', h1, hk _ _ h2, h3.frz, h4⟩
structure FrW (k : Nat) (T T' : St) : Prop where
  next : T.next ≤ T'.next
  box : ∀ j t cs, j ≠ k → T.ob j = some (.box t cs) → T'.ob j = some (.box t cs)
  row : ∀ j e n, e ≠ 83 → e ≠ 29 → T.ob j = some (.row e n) → T'.ob j = some (.row e n)
theorem FrW.of_sub {k : Nat} {A B : St} (h : A.Sub B) : FrW k A B := ⟨h.next, fun j _ _ _ e => h.ob j _ e, fun j _ _ _ _ e => h.ob j _ e⟩
def encB (l : List UInt8) : D := .sl .no (l.map bD)
def kept (f : DGst → DGst × Bool) (gs : List DGst) (i : Nat) : List DGst := (((gs.take i).map f).filter (·.2)).map (·.1)
theorem kept_len (f : DGst → DGst × Bool) (gs : List DGst) (i : Nat) : (kept f gs i).length ≤ gs.length := by
  have h1 := List.length_filter_le (fun x : DGst × Bool => x.2) ((gs.take i).map f)
  rw [List.length_map, List.length_take] at h1
  rw [kept, List.length_map]
  omega
theorem kept_succ {f : DGst → DGst × Bool} {gs : List DGst} {i : Nat} (h : i < gs.length) : kept f gs (i + 1) = kept f gs i ++ if (f gs[i]).2 then [(f gs[i]).1] else [] := by
  unfold kept
  rw [List.take_succ_eq_append_getElem h, List.map_append, List.filter_append, List.map_append]
  congr 1
  cases hp : (f gs[i]).2 <;> simp [hp]
def GRow (own : Own) (n : Nat) (T : St) : Prop := own = .full ∧ n = 0 ∨ ∃ g, own = .row g ∧ T.ob g = some (.row 83 n)
theorem grow_keepG {V : St} (hV : V.WF) {own : Own} {n m : Nat} (h : GRow own n V) {j : Nat} {o : Ob} (e : V.ob j = some o) (ho : ∀ n, o ≠ .row 83 n) : (V.grow own 83 m).ob j = some o := by
  have hj := hV.lt e
  rw [growM_skip (by omega) (fun g hg => ?_), e]
  rintro rfl
  rcases h with ⟨h1, _⟩ | ⟨g', h1, h2⟩
  · rw [h1] at hg; cases hg
  · rw [h1] at hg; injection hg with hg; subst hg
    rw [e] at h2; injection h2 with h2
    exact ho _ h2
section
set_option maxRecDepth 200000
set_option maxHeartbeats 8000000
theorem keep_w {S : St} {k : Nat} (X : Nat → Prop) {gs : List DGst} {size : Nat} {g : FuncId} {cs : List D} (f : DGst → DGst × Bool) (E : Nat → St → Prop) (hrm : RoomAt k gs size S) (hl : gs.length ≤ 1000000) (hX : ¬ X k) (hX2 : ∀ j, X j → j < S.next) (hE0 : E 0 S)
    (hE : ∀ i T T', E i T → (∀ j t cs, T.ob j = some (.box t cs) → T'.ob j = some (.box t cs)) → (∀ j n, T.ob j = some (.row 29 n) → T'.ob j = some (.row 29 n)) → E i T')
    (hc : ∀ i (hi : i < gs.length) U kg, U.WF → E i U → S.next ≤ kg → U.ob kg = some (.box 83 (gsCs gs[i])) → (∀ j t cs, ¬ X j → S.ob j = some (.box t cs) → U.ob j = some (.box t cs)) →
      DCalls Try.prog g (.loc kg 0 :: cs) U fun d V => d = .v (.bool (f gs[i]).2) ∧ V.WF ∧ V.ob kg = some (.box 83 (gsCs (f gs[i]).1)) ∧ E (i + 1) V ∧ U.next ≤ V.next ∧ (∀ j t cs, j ≠ kg → ¬ X j → U.ob j = some (.box t cs) → V.ob j = some (.box t cs)) ∧ (∀ j e n, e ≠ 29 → U.ob j = some (.row e n) → V.ob j = some (.row e n))) :
    DCalls Try.prog 43 [.loc k 0, .fn (.func g) [] cs] S fun d T => d = .tup [] ∧ RoomAt k (kept f gs gs.length) size T ∧ S.next ≤ T.next ∧ (∃ T0, E gs.length T0 ∧ (∀ j t cs, j ≠ k → T0.ob j = some (.box t cs) → T.ob j = some (.box t cs)) ∧ (∀ j n, T0.ob j = some (.row 29 n) → T.ob j = some (.row 29 n))) ∧
      (∀ j t cs, j ≠ k → ¬ X j → S.ob j = some (.box t cs) → T.ob j = some (.box t cs)) ∧ (∀ j e n, e ≠ 83 → e ≠ 29 → S.ob j = some (.row e n) → T.ob j = some (.row e n)) := by
  obtain ⟨own0, h1, _⟩ := hrm.ex
  refine dcalls_inline mixed Try.func43 rfl (fun _ _ => by kernel_rfl) (rs := []) rfl (by kernel_rfl) (fun hS => ?_)
  (simp (disch := first | decide | omega | (simp only [nx]; first | done | omega)) only [go_sem]; (repeat with_reducible refine aI ?_))
  refine (all_at (x := .v (.int .i64 ((size : Nat) : Int))) (own := own0) (gs := gs) h1).mono ?_
  rintro d T' ⟨rfl, rfl⟩
  (simp (disch := first | decide | omega | (simp only [nx]; first | done | omega)) only [go_sem]; (repeat with_reducible refine aI ?_))
  refine dloop_up (fun t => List.contains [4, 6, 10, 11, 12, 13, 14, 15, 16, 17, 18, 19, 20] t) (by kernel_rfl) (by exact (by (repeat' first | assumption | refine St.WF.leave ?_ _ | refine St.WF.add ?_ _ | refine St.WF.set ?_ ?_ _ | refine St.WF.grow ?_ _ _ _ | refine St.WF.keep ?_ ?_ | (first | omega | (simp only [RowOk.lo, nx]; first | done | omega))))) gs.length (fun i q T => i ≤ gs.length ∧ q 10 = .v (.int .i64 ((i : Nat) : Int)) ∧ (∃ own, q 4 = .sl own ((kept f gs i).map encG) ∧ GRow own (kept f gs i).length T) ∧ E i T ∧ T'.next ≤ T.next ∧ (∀ j t cs, ¬ X j → T'.ob j = some (.box t cs) → T.ob j = some (.box t cs)) ∧ (∀ j e n, e ≠ 83 → e ≠ 29 → T'.ob j = some (.row e n) → T.ob j = some (.row e n)))
    ⟨by omega, by (first | (simp (disch := first | decide | omega | (simp only [nx]; first | done | omega)) only [go_sem]; first | done | rfl) | rfl), ⟨.full, by (first | (simp (disch := first | decide | omega | (simp only [nx]; first | done | omega)) only [go_sem]; first | done | rfl) | rfl), .inl ⟨rfl, rfl⟩⟩, hE0, Nat.le_refl _, fun _ _ _ _ h => h, fun _ _ _ _ _ h => h⟩ ?_
  rintro i q T hT hg ⟨le, q10, ⟨own, q4, hrow⟩, hEi, hnx, hbx, hrw⟩
  (have q0 := hg 0 rfl; have q1 := hg 1 rfl; have q8 := hg 8 rfl; have q9 := hg 9 rfl; simp (disch := first | decide | omega | (simp only [nx]; first | done | omega)) only [go_sem] at q0 q1 q8 q9; clear hg)
  have hkl := kept_len f gs i
  by_cases hlt : i < gs.length
  · have b1 : decide ((i : Int) < (gs.length : Int)) = true := decide_eq_true (by omega)
    have w1 : IntKind.i64.wrap ((i : Int) + 1) = ((i + 1 : Nat) : Int) := IntWalk.i64_in _ ⟨by omega, by omega⟩
    (simp (disch := first | decide | omega | (simp only [nx]; first | done | omega)) only [go_sem, q1, q8, q9, q10, b1, hlt]; (repeat with_reducible refine aI ?_))
    rw [St.add_set]
    have hnew : ∀ j o, T.ob j = some o → (T.add (.box 83 (gsCs gs[i]))).ob j = some o := fun j o e => by
      have := hT.lt e
      rw [add_ob, if_neg (by omega)]; exact e
    refine (hc i hlt (T.add (.box 83 (gsCs gs[i]))) T.next (hT.add _) (hE i T _ hEi (fun j t cs e => hnew j _ e) fun j n e => hnew j _ e) hnx (by rw [add_ob, if_pos rfl]) (fun j t cs hj e => hnew j _ (hbx j t cs hj e))).mono ?_
    rintro d V ⟨rfl, hV, v1, v2, v3, v4, v5⟩
    have hEi2 := v2
    have v3' : T.next + 1 ≤ V.next := v3
    have hTV : ∀ j t cs, ¬ X j → T.ob j = some (.box t cs) → V.ob j = some (.box t cs) := fun j t cs hj e => v4 j t cs (by have := hT.lt e; omega) hj (hnew j _ e)
    have hrowV : GRow own (kept f gs i).length V := by
      rcases hrow with h | ⟨g, h2, h3⟩
      · exact .inl h
      · exact .inr ⟨g, h2, v5 g _ _ (by decide) (hnew g _ h3)⟩
    have hks := kept_succ (f := f) hlt
    cases hp : (f gs[i]).2 with
    | false =>
      (simp (disch := first | decide | omega | (simp only [nx]; first | done | omega)) only [go_sem, q10, w1]; (repeat with_reducible refine aI ?_))
      rw [hp] at hks
      simp only [Bool.false_eq_true, if_false, List.append_nil] at hks
      refine ⟨by omega, V.ob, fun _ _ h => h, by omega, by (first | (simp (disch := first | decide | omega | (simp only [nx]; first | done | omega)) only [go_sem, w1]; first | done | rfl) | rfl), ⟨own, ?_, ?_⟩, hEi2, by show T'.next ≤ V.next; omega, fun j t cs hj e => hTV j t cs hj (hbx j t cs hj e), fun j e n h1 h2 h3 => v5 j e n h2 (hnew j _ (hrw j e n h1 h2 h3))⟩
      · rw [hks]; (first | (simp (disch := first | decide | omega | (simp only [nx]; first | done | omega)) only [go_sem, q4]; first | done | rfl) | rfl)
      · rw [hks]; exact hrowV
    | true =>
      (simp (disch := first | decide | omega | (simp only [nx]; first | done | omega)) only [go_sem, q4, v1]; (repeat with_reducible refine aI ?_))
      have hrowA : own = .full ∨ ∃ g, own = .row g ∧ V.ob g = some (.row 83 ((kept f gs i).map encG).length) := by
        rcases hrowV with ⟨h1, _⟩ | ⟨g, h1, h2⟩
        · exact .inl h1
        · exact .inr ⟨g, h1, by rw [List.length_map]; exact h2⟩
      refine app_more elGs zeGs hrowA (by rw [szGs]; exact wGs _) (by rw [szGs]; exact fun d hd => by obtain rfl := List.mem_singleton.1 hd; exact width_encG _) (by rw [List.length_map]; simp; omega) (by rw [List.length_map, byGs]; simp; omega) ?_
      (simp (disch := first | decide | omega | (simp only [nx]; first | done | omega)) only [go_sem, q10, w1]; (repeat with_reducible refine aI ?_))
      rw [hp] at hks
      simp only [if_true] at hks
      have hlm : ((kept f gs i).map encG).length = (kept f gs i).length := List.length_map _
      have gk : ∀ j o, V.ob j = some o → (∀ n, o ≠ .row 83 n) → (V.grow own 83 ((kept f gs i).length + 1)).ob j = some o := fun j o e ho => grow_keepG hV hrowV e ho
      refine ⟨by omega, (V.grow own 83 ((kept f gs i).length + 1)).ob, ?_, by omega, by (first | (simp (disch := first | decide | omega | (simp only [nx]; first | done | omega)) only [go_sem, w1]; first | done | rfl) | rfl), ⟨.row V.next, ?_, .inr ⟨V.next, rfl, ?_⟩⟩, ?_, ?_, ?_, ?_⟩
      · first | exact fun _ _ h => h | (rw [hlm]; exact fun _ _ h => h)
      · rw [hks, List.map_append]; (first | (simp (disch := first | decide | omega | (simp only [nx]; first | done | omega)) only [go_sem]; first | done | rfl) | rfl)
      · rw [hks, List.length_append]
        exact growM_hit
      · exact hE (i + 1) V _ hEi2 (fun j t cs e => gk j _ e fun n h => by cases h) fun j n e => gk j _ e fun n h => by injection h with h _; exact absurd h (by decide)
      · show T'.next ≤ (V.grow own 83 ((kept f gs i).length + 1)).next
        rw [grow_next]
        omega
      · exact fun j t cs hj e => gk j _ (hTV j t cs hj (hbx j t cs hj e)) fun n h => by cases h
      · exact fun j e n h1 h2 h3 => gk j _ (v5 j e n h2 (hnew j _ (hrw j e n h1 h2 h3))) fun n h => by injection h with h _; exact h1 h
  · have b1 : decide ((i : Int) < (gs.length : Int)) = false := decide_eq_false (by omega)
    have hTk := hbx k _ _ hX h1
    have hie : i = gs.length := by omega
    subst hie
    (simp (disch := first | decide | omega | (simp only [nx]; first | done | omega)) only [go_sem, q0, q1, q4, q8, q9, q10, b1, hTk]; (repeat with_reducible refine aI ?_))
    refine ⟨⟨own, ?_, ?_⟩, by show T'.next ≤ T.next; omega, ⟨T, hEi, fun j t cs hj e => ?_, fun j n e => ?_⟩, fun j t cs hj hj2 e => ?_, fun j e n h1' h2 h3 => ?_⟩
    · show (if k = k then _ else _) = _
      rw [if_pos rfl]
    · rcases hrow with ⟨h2, h3⟩ | ⟨g, h2, h3⟩
      · exact .inl ⟨h2, List.eq_nil_of_length_eq_zero h3⟩
      · refine .inr ⟨g, h2, ?_⟩
        show (if g = k then _ else T.ob g) = _
        rw [if_neg (fun e => by rw [e, hTk] at h3; cases h3)]
        exact h3
    · show (if j = k then _ else T.ob j) = _
      rw [if_neg hj]; exact e
    · show (if j = k then _ else T.ob j) = _
      rw [if_neg (fun e' => by rw [e', hTk] at e; cases e)]; exact e
    · show (if j = k then _ else T.ob j) = _
      rw [if_neg hj]; exact hbx j t cs hj2 e
    · have h4 := hrw j e n h1' h2 h3
      show (if j = k then _ else T.ob j) = _
      rw [if_neg (fun e' => by rw [e', hTk] at h4; cases h4)]; exact h4
def OutAt (ko : Nat) (outs : List (List UInt8)) (T : St) : Prop := ∃ own, T.ob ko = some (.box 24 [.sl own (outs.map encB)]) ∧ (own = .full ∧ outs = [] ∨ ∃ g, own = .row g ∧ T.ob g = some (.row 29 outs.length))
theorem OutAt.keep {ko : Nat} {outs : List (List UInt8)} {T T' : St} (h : OutAt ko outs T) (hb : ∀ j t cs, T.ob j = some (.box t cs) → T'.ob j = some (.box t cs)) (hr : ∀ j n, T.ob j = some (.row 29 n) → T'.ob j = some (.row 29 n)) : OutAt ko outs T' := by
  obtain ⟨own, h1, h2⟩ := h
  refine ⟨own, hb _ _ _ h1, ?_⟩
  rcases h2 with h2 | ⟨g, h3, h4⟩
  · exact .inl h2
  · exact .inr ⟨g, h3, hr _ _ h4⟩
def cutF (h : H32) (g : DGst) : DGst × Bool := (cutG h g, decide ((cutG h g).lk ≠ []))
theorem kept_done (gs : List DGst) (h : H32) : kept (cutF h) gs gs.length = doneG gs h := by
  unfold kept doneG
  rw [List.take_length, List.filter_map, List.map_map, List.filter_map]
  rfl
theorem out_succ {gs : List DGst} {h : H32} {i : Nat} (hi : i < gs.length) : outG (gs.take (i + 1)) h = outG (gs.take i) h ++ if (cutG h gs[i]).lk = [] then [gs[i].b] else [] := by
  unfold outG
  rw [List.take_succ_eq_append_getElem hi, List.map_append, List.filter_append, List.map_append]
  congr 1
  show List.map (·.b) (List.filter (fun g : DGst => decide (g.lk = [])) [cutG h gs[i]]) = _
  by_cases hp : (cutG h gs[i]).lk = []
  · rw [if_pos hp, List.filter_cons_of_pos (by simpa using hp)]; rfl
  · rw [if_neg hp, List.filter_cons_of_neg (by simpa using hp)]; rfl
theorem elBs : elT Try.prog 24 = some 29 := by kernel_rfl
theorem szBs : szOf Try.prog 29 = 1 := by kernel_rfl
theorem byBs : bytesOf Try.prog 29 = 24 := by kernel_rfl
theorem zeBs : zeroT Try.prog 29 = true := by kernel_rfl
theorem wBs (l : List (List UInt8)) : ∀ d ∈ l.map encB, d.width = 1 := fun d hd => by obtain ⟨m, _, rfl⟩ := List.mem_map.1 hd; rfl
theorem done1_w {U : St} {kg ks ko : Nat} {g : DGst} {h : H32} {outs : List (List UInt8)} (h1 : U.ob kg = some (.box 83 (gsCs g))) (h2 : U.ob ks = some (.box 44 (h.1.map bD))) (h3 : OutAt ko outs U) (hne : g.lk ≠ []) (hasc : AscH g.lk) (hlk : g.lk.length ≤ 1000000) (hou : outs.length ≤ 1000000) :
    DCalls Try.prog 44 [.loc kg 0, .loc ks 0, .loc ko 0] U fun d V => d = .v (.bool (decide ((cutG h g).lk ≠ []))) ∧ V.WF ∧ V.ob kg = some (.box 83 (gsCs (cutG h g))) ∧ OutAt ko (outs ++ if (cutG h g).lk = [] then [g.b] else []) V ∧ U.next ≤ V.next ∧ (∀ j t cs, j ≠ kg → j ≠ ko → U.ob j = some (.box t cs) → V.ob j = some (.box t cs)) ∧ (∀ j e n, e ≠ 29 → U.ob j = some (.row e n) → V.ob j = some (.row e n)) := by
  refine (DCalls.wf (K := fun d V => d = .v (.bool (decide ((cutG h g).lk ≠ []))) ∧ V.ob kg = some (.box 83 (gsCs (cutG h g))) ∧ OutAt ko (outs ++ if (cutG h g).lk = [] then [g.b] else []) V ∧ U.next ≤ V.next ∧ (∀ j t cs, j ≠ kg → j ≠ ko → U.ob j = some (.box t cs) → V.ob j = some (.box t cs)) ∧ (∀ j e n, e ≠ 29 → U.ob j = some (.row e n) → V.ob j = some (.row e n))) ?_).mono fun d V ⟨⟨a1, a2, a3, a4, a5, a6⟩, aw⟩ => ⟨a1, aw, a2, a3, a4, a5, a6⟩
  have lh := h.2
  refine dcalls_inline mixed Try.func44 rfl (fun _ _ => by kernel_rfl) (rs := [.tmp 4]) rfl (by kernel_rfl) (fun hS => ?_)
  have k1 := hS.lt h1
  have k2 := hS.lt h2
  (simp (disch := first | decide | omega | (simp only [nx]; first | done | omega)) only [go_sem]; (repeat with_reducible refine aI ?_))
  refine ddraw_mk 7 (by kernel_rfl) ?_
  (simp (disch := first | decide | omega | (simp only [nx]; first | done | omega)) only [go_sem, h1, h2, lh]; (repeat with_reducible refine aI ?_))
  refine dqgo_mk (ixH_d .no g.lk h hlk) ?_
  by_cases hm : h ∈ g.lk
  · have hany : g.lk.any (fun x => decide (h = x)) = true := List.any_eq_true.2 ⟨h, hm, by simp⟩
    have hi0 : g.lk.findIdx (fun x => decide (h = x)) < g.lk.length := List.findIdx_lt_length_of_exists ⟨h, hm, by simp⟩
    have hat : g.lk[g.lk.findIdx (fun x => decide (h = x))] = h := by
      have := List.findIdx_getElem (w := hi0)
      exact (of_decide_eq_true this).symm
    have e0 : ixOf (fun x => decide (h = x)) g.lk = ((g.lk.findIdx (fun x => decide (h = x)) : Nat) : Int) := by rw [ixOf, if_pos hany]
    rw [e0]
    generalize g.lk.findIdx (fun x => decide (h = x)) = i at *
    have b1 : decide ((i : Int) < 0) = false := decide_eq_false (by omega)
    have w1 : IntKind.i64.wrap ((i : Int) + 1) = ((i + 1 : Nat) : Int) := IntWalk.i64_in _ ⟨by omega, by omega⟩
    have hcut : g.lk.take i ++ g.lk.drop (i + 1) = (cutG h g).lk := erase_filter hasc h hi0 hat
    have p1 : ((i : Int) ≤ (g.lk.length : Int)) = True := eq_true (by omega)
    have p2 : (((i + 1 : Nat) : Int) ≤ (g.lk.length : Int)) = True := eq_true (by omega)
    have p3 : (∀ d, d ∈ List.map encH g.lk → d.cells.length = 32) = True := eq_true (wHs g.lk)
    have m1 : (g.lk.map encH).take i = (g.lk.take i).map encH := List.map_take.symm
    have m2 : ((g.lk.map encH).take g.lk.length).drop (i + 1) = (g.lk.drop (i + 1)).map encH := by rw [List.take_of_length_le (by rw [List.length_map]; omega), List.map_drop]
    (simp (disch := first | decide | omega | (simp only [nx]; first | done | omega)) only [go_sem, b1]; (repeat with_reducible refine aI ?_))
    refine ddraw_mk 18 (by kernel_rfl) ?_
    (simp (disch := first | decide | omega | (simp only [nx]; first | done | omega)) only [go_sem, h1, w1, p1, p2, p3, or_true, m1, m2]; (repeat with_reducible refine aI ?_))
    refine dqgo_mk (concat_d .full .no .no (g.lk.take i) (g.lk.drop (i + 1)) (by rw [List.length_take, List.length_drop]; omega)) ?_
    rw [hcut]
    have hset := set_gsCs g (cutG h g).lk
    have hcg : gsCs ⟨g.n, g.b, (cutG h g).lk⟩ = gsCs (cutG h g) := rfl
    rw [hcg] at hset
    (simp (disch := first | decide | omega | (simp only [nx]; first | done | omega)) only [go_sem, h1, hset]; (repeat with_reducible refine aI ?_))
    obtain ⟨own, o1, o2⟩ := h3
    have hkk : ko ≠ kg := fun e => by rw [e, h1] at o1; injection o1 with o1; injection o1 with o1 _; exact absurd o1 (by decide)
    have hko := hS.lt o1
    have hset2 : ∀ j o, j ≠ kg → U.ob j = some o → (U.set kg (.box 83 (gsCs (cutG h g)))).ob j = some o := fun j o hj e => by rw [set_ob, if_neg hj]; exact e
    have hU1 : (U.set kg (.box 83 (gsCs (cutG h g)))).ob kg = some (.box 83 (gsCs (cutG h g))) := by rw [set_ob, if_pos rfl]
    have hU2 := hset2 ko _ hkk o1
    have hWU : (U.set kg (.box 83 (gsCs (cutG h g)))).WF := hS.set k1 _
    have hNU : (U.set kg (.box 83 (gsCs (cutG h g)))).next = U.next := rfl
    have hrow2 : ∀ j e n, U.ob j = some (.row e n) → (U.set kg (.box 83 (gsCs (cutG h g)))).ob j = some (.row e n) := fun j e n hh => hset2 j _ (fun e' => by rw [e', h1] at hh; cases hh) hh
    generalize U.set kg (.box 83 (gsCs (cutG h g))) = U1 at *
    by_cases he : (cutG h g).lk = []
    · have b2 : ((((cutG h g).lk.length : Nat) : Int) == 0) = true := by rw [he]; rfl
      have b3 : decide ((0 : Int) < (((cutG h g).lk.length : Nat) : Int)) = false := by rw [he]; rfl
      (simp (disch := first | decide | omega | (simp only [nx]; first | done | omega)) only [go_sem, hU1, b2]; (repeat with_reducible refine aI ?_))
      refine ddraw_any (fun S' => S'.ob ko = some (.box 24 [.sl own (outs.map encB)]) ∧ S'.ob kg = some (.box 83 (gsCs (cutG h g)))) 7 (by (first | (simp (disch := first | decide | omega | (simp only [nx]; first | done | omega)) only [go_sem, hU1, hU2, true_and, and_true]; first | done | rfl) | rfl)) (by kernel_rfl) ?_
      (refine s_take 0 rfl (by kernel_rfl) (by kernel_rfl) (v := ?v1) (fun S' hz => dquietR_of ?h1) <| s_take 1 rfl (by kernel_rfl) (by kernel_rfl) (v := ?v2) (fun S' hz => dquietR_of ?h2) <| s_take 2 rfl (by kernel_rfl) (by kernel_rfl) (v := ?v3) (fun S' hz => dquietR_of ?h3) <| s_take 3 rfl (by kernel_rfl) (by kernel_rfl) (v := ?v4) (fun S' hz => dquietR_of ?h4) <| s_take 4 rfl (by kernel_rfl) (by kernel_rfl) (v := ?v5) (fun S' hz => dquietR_of ?h5) <| s_take 5 rfl (by kernel_rfl) (by kernel_rfl) (v := ?v6) (fun S' hz => dquietR_of ?h6) <| ?k6; (case h1 | h2 | h3 | h4 | h5 | h6 => ((simp (disch := first | decide | omega | (simp only [nx]; first | done | omega)) only [go_sem, hz.1, hz.2, hz]; (repeat with_reducible refine aI ?_)); first | done | exact rfl | omega)))
      (refine s_split [6] (by kernel_rfl) (by simp) ?_; intro j_ hj_; obtain rfl : j_ = 6 := (by simpa using hj_); clear hj_; refine s_op rfl ?_; (simp (disch := first | decide | omega | (simp only [nx]; first | done | omega)) only [go_sem]; (repeat with_reducible refine aI ?_)))
      have hrowA : own = .full ∨ ∃ g, own = .row g ∧ U1.ob g = some (.row 29 (outs.map encB).length) := by
        rcases o2 with ⟨e1, _⟩ | ⟨g2, e1, e2⟩
        · exact .inl e1
        · exact .inr ⟨g2, e1, by rw [List.length_map]; exact hrow2 _ _ _ e2⟩
      have hgk : ∀ j o m, U1.ob j = some o → (∀ n, o ≠ .row 29 n) → (U1.grow own 29 m).ob j = some o := fun j o m e ho => by
        have hj := hWU.lt e
        rw [growM_skip (by omega) (fun g hg => ?_), e]
        rintro rfl
        rcases hrowA with e1 | ⟨g', e1, e2⟩
        · rw [e1] at hg; cases hg
        · rw [e1] at hg; injection hg with hg; subst hg
          rw [e] at e2; injection e2 with e2
          exact ho _ e2
      refine app_more elBs zeBs hrowA (by rw [szBs]; exact wBs _) (by rw [szBs]; exact fun d hd => by obtain rfl := List.mem_singleton.1 hd; rfl) (by rw [List.length_map]; simp; omega) (by rw [List.length_map, byBs]; simp; omega) ?_
      have hlo : (outs.map encB).length = outs.length := List.length_map _
      have z1 := hgk ko _ (outs.length + 1) hU2 (fun n h => by cases h)
      have z2 := hgk kg _ (outs.length + 1) hU1 (fun n h => by cases h)
      have hgn : (U1.grow own 29 (outs.length + 1)).next = U1.next + 1 := grow_next _ _ _ _
      rw [hlo]
      refine ⟨⟨z1, z2⟩, ?_⟩
      (refine s_done (by kernel_rfl) ?_; (simp (disch := first | decide | omega | (simp only [nx]; first | done | omega)) only [go_sem, z1, z2, b3]; (repeat with_reducible refine aI ?_)))
      refine ⟨by rw [decide_eq_false (fun e => e he)], ?_, ?_, ?_, ?_⟩
      · rw [if_pos he]
        refine ⟨.row U1.next, ?_, .inr ⟨U1.next, rfl, ?_⟩⟩
        · rw [set_ob, if_pos rfl, List.map_append]; rfl
        · rw [set_ob, if_neg (by omega), List.length_append]
          exact growM_hit
      · show U.next ≤ U1.next + 1
        omega
      · intro j t cs hj hj2 e
        rw [set_ob, if_neg hj2]
        exact hgk j _ _ (hset2 j _ hj e) fun n h => by cases h
      · intro j e n hne' hh
        have hr1 := hrow2 j e n hh
        rw [set_ob, if_neg (fun e' => by rw [e', hU2] at hr1; cases hr1)]
        exact hgk j _ _ hr1 fun n h => by injection h with h _; exact hne' h
    · have b2 : ((((cutG h g).lk.length : Nat) : Int) == 0) = false := by
        have := List.length_pos_iff.2 he
        rw [beq_eq_false_iff_ne]; omega
      have b3 : decide ((0 : Int) < (((cutG h g).lk.length : Nat) : Int)) = true := decide_eq_true (by have := List.length_pos_iff.2 he; omega)
      (simp (disch := first | decide | omega | (simp only [nx]; first | done | omega)) only [go_sem, hU1, b2, b3]; (repeat with_reducible refine aI ?_))
      refine ⟨by rw [decide_eq_true he], ?_, by omega, fun j t cs hj _ e => hset2 j _ hj e, fun j e n _ hh => hrow2 j e n hh⟩
      rw [if_neg he, List.append_nil]
      refine ⟨own, hU2, ?_⟩
      rcases o2 with o2 | ⟨g2, o3, o4⟩
      · exact .inl o2
      · exact .inr ⟨g2, o3, hrow2 _ _ _ o4⟩
  · have hany : g.lk.any (fun x => decide (h = x)) = false := List.any_eq_false.2 fun x hx e => hm ((of_decide_eq_true e) ▸ hx)
    have e0 : ixOf (fun x => decide (h = x)) g.lk = -1 := by rw [ixOf, if_neg (by rw [hany]; simp)]
    have b1 : decide ((-1 : Int) < 0) = true := by decide
    rw [e0]
    have hcut : cutG h g = g := by unfold cutG; rw [filter_self hm]
    (simp (disch := first | decide | omega | (simp only [nx]; first | done | omega)) only [go_sem, b1]; (repeat with_reducible refine aI ?_))
    rw [hcut]
    refine ⟨by rw [decide_eq_true hne], h1, ?_, Nat.le_refl _, fun _ _ _ _ _ e => e, fun _ _ _ _ e => e⟩
    rw [if_neg hne, List.append_nil]
    exact h3
end
end Go.Proofs.Ytonncfminojejaa

namespace Go.Proofs.Ytonncfminojejaa
open Go.RowKit
section
set_option maxRecDepth 200000
set_option maxHeartbeats 8000000
theorem frz_encBs (l : List (List UInt8)) : frzL (l.map encB) = l.map encB := by
  rw [frzL_map, List.map_map]
  refine List.map_congr_left fun m _ => ?_
  show (encB m).frz = encB m
  simp only [encB, D.frz, frz_bB]
def GOk (gs : List DGst) : Prop := ∀ g ∈ gs, g.lk ≠ [] ∧ AscH g.lk ∧ g.lk.length ≤ 1000000 ∧ g.b.length ≤ 1000000
theorem done_at {S : St} {k : Nat} {gs : List DGst} {size : Nat} (hrm : RoomAt k gs size S) (hl : gs.length ≤ 1000000) (hok : GOk gs) (h : H32) : DCalls Try.prog 21 [.loc k 0, encH h] S fun d T => d = .sl .no ((outG gs h).map encB) ∧ RoomAt k (doneG gs h) size T ∧ FrW k S T := by
  refine dcalls_frz (K := fun d T => (∃ own, d = .sl own ((outG gs h).map encB)) ∧ RoomAt k (doneG gs h) size T ∧ FrW k S T) ?_ fun d T ⟨⟨own, e⟩, h2⟩ => ⟨by subst e; simp only [D.frz, frz_encBs], h2⟩
  obtain ⟨own0, h1, _⟩ := hrm.ex
  refine dcalls_inline mixed Try.func21 rfl (fun _ _ => by kernel_rfl) (rs := [.tmp 4]) rfl (by kernel_rfl) (fun hS => ?_)
  have hkl := hS.lt h1
  have lh := h.2
  (simp (disch := first | decide | omega | (simp only [nx]; first | done | omega)) only [go_sem, lh]; (repeat with_reducible refine aI ?_))
  have hsub : S.Sub ((S.add (.box 44 (h.1.map bD))).add (.box 24 [.sl .full []])) := ((St.Sub.refl S).add hS _).add hS _
  have hrm1 : RoomAt k gs size ((S.add (.box 44 (h.1.map bD))).add (.box 24 [.sl .full []])) := hrm.mono hsub.ob
  have key := keep_w (S := (S.add (.box 44 (h.1.map bD))).add (.box 24 [.sl .full []])) (k := k) (fun j => j = S.next + 1) (g := 44) (cs := [.loc S.next 0, .loc (S.next + 1) 0]) (cutF h) (fun i T => OutAt (S.next + 1) (outG (gs.take i) h) T) hrm1 hl (by omega) (fun j e => by subst e; show S.next + 1 < S.next + 1 + 1; omega)
    ⟨.full, by (first | (simp (disch := first | decide | omega | (simp only [nx]; first | done | omega)) only [go_sem]; first | done | rfl) | rfl), .inl ⟨rfl, rfl⟩⟩ (fun _ _ _ h h2 h3 => h.keep h2 h3) fun i hi U kg hU hE hkg hob hbx => by
    have hmem : gs[i] ∈ gs := List.getElem_mem hi
    have hlen : (outG (gs.take i) h).length ≤ 1000000 := by
      have h1 := List.length_filter_le (fun g : DGst => decide (g.lk = [])) ((gs.take i).map (cutG h))
      rw [List.length_map, List.length_take] at h1
      rw [outG, List.length_map]
      omega
    refine DCalls.mono (done1_w (ks := S.next) hob (hbx S.next _ _ (by omega) (by (first | (simp (disch := first | decide | omega | (simp only [nx]; first | done | omega)) only [go_sem]; first | done | rfl) | rfl))) hE (hok _ hmem).1 (hok _ hmem).2.1 (hok _ hmem).2.2.1 hlen) ?_
    rintro d V ⟨rfl, hV, v1, v2, v3, v4, v5⟩
    refine ⟨rfl, hV, v1, ?_, v3, fun j t cs h1 h2 e => v4 j t cs h1 h2 e, v5⟩
    rw [out_succ hi]
    exact v2
  refine DCalls.mono key ?_
  rintro d T ⟨rfl, hr2, hn2, ⟨T0, hE0, hb0, hr0⟩, hb2, hw2⟩
  rw [kept_done] at hr2
  rw [List.take_length] at hE0
  obtain ⟨own, o1, o2⟩ := hE0
  have o3 := hb0 _ _ _ (by omega) o1
  (simp (disch := first | decide | omega | (simp only [nx]; first | done | omega)) only [go_sem, o3]; (repeat with_reducible refine aI ?_))
  have hfr : FrW k S T := ⟨by have := hsub.next; omega, fun j t cs hj e => hb2 j t cs hj (by have := hS.lt e; omega) (hsub.ob j _ e), fun j e n h1 h2 h3 => hw2 j e n h1 h2 (hsub.ob j _ h3)⟩
  exact ⟨⟨own, rfl⟩, hr2, hfr⟩
end
end Go.Proofs.Ytonncfminojejaa
