/- Texts of a proof, part 5. Conditions: none. -/
import Derived.Test.YtonncfminojejaaGreatDoorE4
import Derived.Shelf.SlSortCmp.WholeK
import Derived.Lib.QuietBelow
import Derived.Ground.SlsfProg
import Derived.LaidEql
import Derived.Stop.Asserts
import Derived.RowKitTokens
set_option linter.unusedVariables false
set_option linter.unusedSimpArgs false
namespace Go.Proofs.YtonncfminojejaaGreatDoor
open Go.RowKit Go.Sort Go.Shelf
section
variable {P : Program} {base : Nat} {S : St} {η : Names} {w : World}
theorem goes_ahead (h : Mem P base S η w) : ∀ n, Goes P base S η w S η (Sort.ahead w n)
  | 0 => Goes.refl h
  | n + 1 => by
    have := goes_ahead h n
    rw [← ahead_drew]
    exact this.trans (goes_drew this.mem)
theorem goes_grow (h : Mem P base S η w) : ∀ os : List Obj, Goes P base S η w S η (grow w os.toArray) := by
  intro os
  induction os generalizing w with
  | nil => simpa using Goes.refl h
  | cons o os ih =>
    have h1 := goes_new h o
    have := h1.trans (ih h1.mem)
    rw [alloc_eq_grow, grow_grow] at this
    simpa using this
theorem mapBlock_setRow {w : World} {b : Nat} {vs : List Value} {t : TypeId} {fr : Nat × Nat} (hb : w.heap[b]? = some (.cells vs.toArray t fr)) (f : Array Value → Array Value) : mapBlock w b f = w.setRow b (f vs.toArray) := by
  unfold mapBlock World.setRow
  congr 1
  apply Array.ext_getElem?
  intro k
  simp only [Array.getElem?_modify]
  by_cases hk : b = k
  · subst hk
    simp only [if_true, hb, Option.map_some, onCells]
  · simp [hk]
theorem putCells_list {off : Nat} {F vs : List Value} (h : off + F.length ≤ vs.length) : putCells id off F.toArray vs.toArray = (vs.take off ++ F ++ vs.drop (off + F.length)).toArray := by
  apply Array.ext_getElem?
  intro k
  simp only [putCells, Array.getElem?_mapIdx, List.getElem?_toArray, List.size_toArray, id_eq]
  by_cases h1 : k < off
  · rw [List.append_assoc, List.getElem?_append_left (by simp; omega), List.getElem?_take_of_lt h1]
    cases vs[k]? with
    | none => rfl
    | some y => rw [Option.map_some, if_neg (by omega)]
  · by_cases h2 : k < off + F.length
    · rw [List.getElem?_append_left (by simp; omega), List.getElem?_append_right (by simp; omega), List.length_take, Nat.min_eq_left (by omega), List.getElem?_eq_getElem (by omega : k - off < F.length), List.getElem?_eq_getElem (by omega : k < vs.length), Option.map_some, if_pos (by omega)]
      have h3 : k - off < F.toArray.size := by simp; omega
      rw [getElem!_pos F.toArray (k - off) h3]
      simp
    · rw [List.getElem?_append_right (by simp; omega), List.getElem?_drop]
      simp only [List.length_append, List.length_take]
      rw [show off + F.length + (k - (min off vs.length + F.length)) = k by omega]
      cases vs[k]? with
      | none => rfl
      | some y => rw [Option.map_some, if_neg (by omega)]
variable {α : Type} [Inhabited α]
theorem flatMap_get {enc : α → List Value} {z : Nat} (hz : ∀ x, (enc x).length = z) : ∀ (l : List α) (t : Nat), t < l.length * z → (l.flatMap enc)[t]? = (enc (l.getD (t / z) default))[t % z]?
  | [], t, h => by simp at h
  | x :: l, t, h => by
    have z0 : 0 < z := by rcases Nat.eq_zero_or_pos z with h' | h'; · subst h'; simp at h
                          · exact h'
    rw [List.flatMap_cons]
    by_cases h1 : t < z
    · rw [List.getElem?_append_left (by rw [hz]; exact h1), Nat.div_eq_of_lt h1, Nat.mod_eq_of_lt h1]
      rfl
    · obtain ⟨u, rfl⟩ : ∃ u, t = u + z := ⟨t - z, by omega⟩
      rw [List.getElem?_append_right (by rw [hz]; omega), hz, Nat.add_sub_cancel, flatMap_get hz l u (by simp only [List.length_cons, Nat.add_mul, Nat.one_mul] at h; omega), Nat.add_mod_right, Nat.add_div_right _ z0]
      rfl
theorem flatMap_len {α : Type} {enc : α → List Value} {z : Nat} (hz : ∀ x, (enc x).length = z) : ∀ l : List α, (l.flatMap enc).length = l.length * z
  | [] => by simp
  | x :: l => by rw [List.flatMap_cons, List.length_append, hz, flatMap_len hz l, List.length_cons, Nat.add_mul, Nat.one_mul, Nat.add_comm]
theorem flatK_list {enc : α → List Value} {z : Nat} (hz : ∀ x, (enc x).length = z) (l : List α) : flatK enc z l.toArray = (l.flatMap enc).toArray := by
  apply Array.ext_getElem?
  intro t
  by_cases h : t < l.length * z
  · have z0 : 0 < z := by rcases Nat.eq_zero_or_pos z with h' | h'; · subst h'; simp at h
                          · exact h'
    have hm : t % z < z := Nat.mod_lt _ z0
    have hd : t / z < l.length := Nat.div_lt_of_lt_mul (by rw [Nat.mul_comm]; exact h)
    rw [List.getElem?_toArray (xs := l.flatMap enc), flatMap_get hz l t h]
    simp only [flatK, Array.getElem?_map, Array.getElem?_range, List.size_toArray, if_pos h, Option.map_some]
    rw [getElem!_pos l.toArray (t / z) (by simpa using hd), List.getD_eq_getElem?_getD, List.getElem?_eq_getElem hd]
    simp only [Option.getD_some, List.getElem_toArray]
    rw [getElem!_pos _ (t % z) (by rw [hz]; exact hm), List.getElem?_eq_getElem (by rw [hz]; exact hm)]
  · rw [Array.getElem?_eq_none (by rw [size_flatK]; simpa using Nat.le_of_not_lt h), List.getElem?_toArray, List.getElem?_eq_none (by rw [flatMap_len hz]; omega)]
theorem repL_vs {X : Nat → Nat → Prop} : ∀ {us vs : List Value}, RepL P w η X (us.map D.v) vs → vs = us
  | [], vs, h => by simpa only [List.map_nil, RepL] using h
  | u :: us, vs, h => by
    simp only [List.map_cons, RepL, Rep] at h
    obtain ⟨x, xs, rfl, rfl, h3⟩ := h
    rw [repL_vs h3]
theorem repL_plain {X : Nat → Nat → Prop} : ∀ us : List Value, RepL P w η X (us.map D.v) us
  | [] => by simp only [List.map_nil, RepL]
  | u :: us => by simp only [List.map_cons, RepL, Rep]; exact ⟨u, us, rfl, rfl, repL_plain us⟩
theorem repL_split {X : Nat → Nat → Prop} : ∀ {l m : List D} {vs : List Value}, RepL P w η X (l ++ m) vs → RepL P w η X l (vs.take l.length) ∧ RepL P w η X m (vs.drop l.length)
  | [], m, vs, h => by simpa only [List.nil_append, List.length_nil, List.take_zero, List.drop_zero, RepL, true_and] using h
  | d :: l, m, vs, h => by
    simp only [List.cons_append, RepL] at h
    obtain ⟨x, xs, rfl, h2, h3⟩ := h
    have := repL_split h3
    simp only [List.length_cons, List.take_succ_cons, List.drop_succ_cons, RepL]
    exact ⟨⟨x, _, rfl, h2, this.1⟩, this.2⟩
theorem flat_enc {α : Type} {enc : α → List Value} {e : α → D} (he : ∀ x, (e x).cells = (enc x).map D.v) : ∀ l : List α, flat (l.map e) = (l.flatMap enc).map D.v
  | [] => rfl
  | x :: l => by
    have := flat_enc he l
    simp only [flat] at this ⊢
    rw [List.map_cons, List.flatMap_cons, List.flatMap_cons, List.map_append, this, he]
theorem sorted_goes (hM : Mem P base S η w) {enc : α → List Value} {z : Nat} (hz : ∀ x, (enc x).length = z) (h1 : ∀ x, ∀ v ∈ enc x, v.oneCell' = true) {e : α → D} (he : ∀ x, (e x).cells = (enc x).map D.v) {k b : Nat} {t : TypeId} {A B : List D} {l l' : List α} (hl : l'.length = l.length)
    (hk : S.ob k = some (.box t (A ++ flat (l.map e) ++ B))) (hb : η k = some (some b)) (n : Nat) (os : Array Obj) :
    HoldsK enc z w b A.length l.toArray ∧ Goes P base S η w (S.set k (.box t (A ++ flat (l'.map e) ++ B))) η (sortWorldK enc z w b A.length n l'.toArray os) := by
  obtain ⟨vs, g1, g2, g3⟩ := hM.box k t _ b hk hb
  rw [flat_enc he, List.append_assoc] at g2
  obtain ⟨s1, s2⟩ := repL_split g2
  obtain ⟨s3, s4⟩ := repL_split s2
  rw [List.length_map, flatMap_len hz] at s3 s4
  have hF := repL_vs s3
  have hlen := g2.length
  simp only [List.length_append, List.length_map, flatMap_len hz] at hlen
  have hA : (vs.take A.length).length = A.length := by rw [List.length_take]; omega
  constructor
  · unfold HoldsK
    rw [flatK_list hz]
    intro i hi
    have hi' : i < l.length * z := by simpa [flatMap_len hz] using hi
    have hget : vs[A.length + i]? = (l.flatMap enc)[i]? := by
      rw [← hF, List.getElem?_take_of_lt hi', List.getElem?_drop]
    constructor
    · simp only [World.cell?, g1, Option.isSome_none, Bool.false_eq_true, if_false, List.getElem?_toArray, id_eq]
      rw [hget, getElem!_pos _ i hi, List.getElem?_eq_getElem (by simpa using hi)]
      simp
    · simp [World.frozen?, g1]
  · have hfit : A.length + (l'.flatMap enc).length ≤ vs.length := by rw [flatMap_len hz, hl]; omega
    have e1 : sortWorldK enc z w b A.length n l'.toArray os = grow (Sort.ahead (w.setRow b (vs.take A.length ++ l'.flatMap enc ++ vs.drop (A.length + (l'.flatMap enc).length)).toArray) n) os := by
      unfold sortWorldK putRowK
      rw [flatK_list hz]
      have : putRow id (Sort.ahead w n) b A.length (l'.flatMap enc).toArray = Sort.ahead (putRow id w b A.length (l'.flatMap enc).toArray) n := rfl
      rw [this]
      unfold putRow
      rw [mapBlock_setRow g1, putCells_list hfit]
    rw [e1]
    have G := goes_set hM (cs' := A ++ flat (l'.map e) ++ B) (vs' := vs.take A.length ++ l'.flatMap enc ++ vs.drop (A.length + (l'.flatMap enc).length)) hk hb (by rw [flat_enc he, flat_enc he]; simp [flatMap_len hz, hl]) (by
        rw [flat_enc he]
        refine RepL.append (RepL.append s1 (repL_plain _)) ?_
        rw [flatMap_len hz, hl]
        rw [List.drop_drop] at s4
        exact s4) (fun x hx => by
        simp only [List.mem_append, List.mem_flatMap] at hx
        rcases hx with (hx | ⟨y, _, hx⟩) | hx
        · exact g3 x (List.mem_of_mem_take hx)
        · exact h1 y x hx
        · exact g3 x (List.mem_of_mem_drop hx))
    have G2 := G.trans (goes_ahead G.mem n)
    exact G2.trans (by simpa using goes_grow G2.mem os.toList)
end
end Go.Proofs.YtonncfminojejaaGreatDoor

namespace Go.Proofs.YtonncfminojejaaGreatDoor
open Go.RowKit Go.Sort Go.Shelf
section
variable {P : Program} {ρ : Ren} {S : St} {α : Type} [Inhabited α]
theorem cmp_lays {α : Type} (hmo : mo = true) {enc : α → List Value} (h1 : ∀ x, ∀ v ∈ enc x, v.oneCell' = true) {e : α → D} (he : ∀ x, e x = .agg ((enc x).map D.v)) {cf : α → α → Int} {g : FuncId}
    (eg : ∀ args w, (callFunc g args).run P w = .ok (.enter g args) w) (hcmp : ∀ x y, DPure P g [e x, e y] (.v (.int .i64 (cf x y)))) {W : World} (hg : GlobOk W.heap.size W) (x y : α) :
    Calls P g (#[.agg (enc x).toArray, .agg (enc y).toArray] ++ #[]) W fun e w' => e = .returned (.int .i64 (cf x y)) ∧ ∃ q os', w' = grow (W.drewN q) os' := by
  have hr : RepL P W (fun _ => none) (Fix P St.nil fun _ => none) [e x, e y] [.agg (enc x).toArray, .agg (enc y).toArray] := by
    rw [he, he]
    simp only [RepL, Rep]
    exact ⟨_, _, rfl, ⟨_, rfl, repL_plain _, h1 x⟩, _, _, rfl, ⟨_, rfl, repL_plain _, h1 y⟩, rfl⟩
  rw [Array.append_empty]
  rcases hcmp x y St.nil W.heap.size _ W _ (mem_nil W hg) hr with ⟨_, k⟩ | ⟨d, S', η', u, w', k, _⟩
  · refine k.mono fun _ w' ⟨d, S', η', u, ⟨h1, _⟩, h2, h3, h4⟩ => ?_
    subst h1
    simp only [Rep] at h3
    subst h3
    refine ⟨h2, ?_⟩
    obtain ⟨p, hp⟩ := regrown_of_below h4.below
    have hd := h4.drawn hmo
    have hd2 : w'.drawn = p.d := by rw [hp]; rfl
    refine ⟨p.d - W.drawn, p.os, ?_⟩
    rw [hp]
    congr 1
    unfold redrawn World.drewN
    rw [show W.drawn + (p.d - W.drawn) = p.d by omega]
  · rw [eg] at k
    injection k with k
    cases k
theorem perm_of_permIn {d d' : Array α} (h : PermIn 0 d.size d d') : d'.toList.Perm d.toList := by
  obtain ⟨hs, _, hp⟩ := h
  have e1 : d.extract 0 d.size = d := by simp
  have e2 : d'.extract 0 d.size = d' := by rw [← hs]; simp
  rwa [e1, e2] at hp
theorem pairwise_of_sortedIn {lt : α → α → Bool} {n : Nat} {d : Array α} (hn : n = d.size) (h : SortedIn lt 0 n d) : d.toList.Pairwise fun a b => lt b a = false := by
  rw [List.pairwise_iff_getElem]
  intro i j hi hj hij
  have := h i j (Nat.zero_le _) hij (by rw [hn]; simpa using hj)
  rw [getElem!_pos d i (by simpa using hi), getElem!_pos d j (by simpa using hj)] at this
  simpa using this
theorem dsort (hmo : mo = true) (L : SlLaysF0.n6 P ρ) {z : Nat} (aE : ∀ w, (isAgg (ρ.t 24)).run P w = .ok true w) (zE : ∀ w, (Go.sizeOf (ρ.t 24)).run P w = .ok z w) (hent : ∀ vs w, (callFunc (ρ.f 6) vs).run P w = .ok (.enter (ρ.f 6) vs) w)
    {enc : α → List Value} (hz : ∀ x, (enc x).length = z) (h1 : ∀ x, ∀ v ∈ enc x, v.oneCell' = true) {e : α → D} (he : ∀ x, e x = .agg ((enc x).map D.v)) {cf : α → α → Int} (hO : SWO (ltOf cf)) {g : FuncId}
    (eg : ∀ args w, (callFunc g args).run P w = .ok (.enter g args) w) (hcmp : ∀ x y, DPure P g [e x, e y] (.v (.int .i64 (cf x y)))) {k c : Nat} {t : TypeId} {A B : List D} {l : List α} (hk : S.ob k = some (.box t (A ++ flat (l.map e) ++ B))) (hsz : l.length ≤ 1000000) :
    DCalls P (ρ.f 6) [.win k A.length l.length c, .fn (.func g) [] []] S (fun d T => d = .tup [] ∧ ∃ l' : List α, l'.Perm l ∧ l'.Pairwise (fun a b => ltOf cf b a = false) ∧ T = S.set k (.box t (A ++ flat (l'.map e) ++ B))) := by
  intro base η w vs hM hr
  simp only [RepL] at hr
  obtain ⟨x, xs, rfl, hx, y, ys, rfl, hy, rfl⟩ := hr
  obtain ⟨b, vs0, rfl, hb, hheap, -, -, -, -⟩ := win_live hM hk hx
  simp only [Rep, RepL] at hy
  obtain ⟨us, vs1, rfl, rfl, rfl⟩ := hy
  have hcells : ∀ x, (e x).cells = (enc x).map D.v := fun x => by rw [he]; rfl
  refine .inl ⟨hent _ _, ?_⟩
  have hblk := (hM.in_ k b hb).2
  have H := (sorted_goes hM hz h1 hcells (l' := l) rfl hk hb 0 #[]).1
  have hC : CmpLays P g #[] enc z cf b A.length l.toArray.size w := fun m os dk hdk x y => by
    have G := (sorted_goes hM hz h1 hcells (l' := dk.toList) (by simpa using hdk) hk hb m os).2
    rw [Array.toArray_toList] at G
    exact cmp_lays hmo h1 he eg hcmp (fun p hp => ⟨Nat.lt_of_lt_of_le (G.mem.glob p hp).1 G.mem.base_, (G.mem.glob p hp).2⟩) x y
  have key := AnyQ.slices_SortFunc L z aE zE enc hz h1 cf hO g #[] b A.length c l.toArray w eg hC H hblk (by simp; omega)
  rw [List.size_toArray] at key
  refine key.mono ?_
  rintro e' w' ⟨rfl, d', n, os, hp, hs, rfl⟩
  have hp' := perm_of_permIn (d := l.toArray) (by simpa using hp)
  have hl' : d'.toList.length = l.length := by simpa using hp'.length_eq
  have G := (sorted_goes hM hz h1 hcells (l' := d'.toList) hl' hk hb n os).2
  rw [Array.toArray_toList] at G
  exact ⟨.tup [], _, η, .tuple #[], ⟨rfl, d'.toList, by simpa using hp', pairwise_of_sortedIn (by simpa using hl'.symm) hs, rfl⟩, rfl, by simp only [Rep, RepL]; exact ⟨[], rfl, rfl⟩, G⟩
end
end Go.Proofs.YtonncfminojejaaGreatDoor

namespace Go.Proofs.YtonncfminojejaaGreatDoor
open Go.RowKit Go.Sort Go.Shelf
theorem bitsLen_d {P : Program} {ρ : Ren} (L : SlLaysF0.n6 P ρ) (hent : ∀ vs w, (callFunc (ρ.f 15) vs).run P w = .ok (.enter (ρ.f 15) vs) w) (n : Nat) (hn : n < 4611686018427387904) : DPure P (ρ.f 15) [.v (.int .u64 (n : Int))] (.v (.int .i64 (Lib.bitLen n : Nat))) := fun S base η w vs hM hr => by
  simp only [RepL, Rep] at hr
  obtain ⟨x, xs, rfl, rfl, rfl⟩ := hr
  have h := Any.bits_Len (SlLaysF0.n15.bits (P := P) (ρ := ρ) { L with }) (n : Int) w (by omega) (by omega)
  rw [Int.toNat_natCast] at h
  exact .inl ⟨hent _ _, h.mono fun _ _ ⟨h1, h2⟩ => by subst h2; exact ⟨_, S, η, _, ⟨rfl, rfl⟩, h1, by simp only [Rep], Goes.refl hM⟩⟩
section
set_option maxRecDepth 200000
set_option maxHeartbeats 4000000
variable {S : St}
theorem ob_self {S : St} {k : Nat} {o : Ob} (h : S.ob k = some o) : S.set k o = S := by
  cases S with
  | mk n ob =>
    simp only [St.set]
    congr 1
    funext j
    by_cases e : j = k
    · subst e; rw [if_pos rfl]; exact h.symm
    · rw [if_neg e]
end
end Go.Proofs.YtonncfminojejaaGreatDoor

namespace Go.Proofs.YtonncfminojejaaGreatDoor
open Go.ChangeShapes Go.WideShapes Go.ChangeAt Go.RowKit Go.Deep Go.Joins
section
set_option maxRecDepth 20000
variable {H : Type} {enc : TypeId × Value → H} {w : World}
theorem hash_of {fuel : Nat} {cs : List Value} {x : DataW H × List MemPlace} (h : DataW.trod enc Tryz.prog w 0 (fun _ => true) true fuel 45 cs = some x) : ∃ m : H32, cs = m.1.map bV := by
  obtain ⟨l, h1, h2⟩ := open_u8array Tryz.underlying45 Tryz.underlying5 (by kernel_rfl) (by kernel_rfl) h
  exact ⟨⟨l, h1⟩, h2⟩
theorem bV_one (h : H32) : ∀ v ∈ h.1.map bV, v.oneCell' = true := fun v hv => by
  obtain ⟨b, _, rfl⟩ := List.mem_map.1 hv
  rfl
theorem encH_vs (m : H32) : encH m = .agg ((m.1.map bV).map D.v) := by
  simp only [encH, List.map_map]
  rfl
theorem rep_hash (m : H32) (η : Names) (X : Nat → Nat → Prop) : Rep Tryz.prog w η X (encH m) (.agg (m.1.map bV).toArray) := by
  rw [encH_vs]
  simp only [Rep]
  exact ⟨_, rfl, repL_plain _, bV_one m⟩
end
end Go.Proofs.YtonncfminojejaaGreatDoor

namespace Go.Proofs.YtonncfminojejaaGreatDoor
open Go.RowKit
def hk (h : H32) : Int := ((valH h : Nat) : Int)
theorem hk_inj {a b : H32} (h : hk a = hk b) : a = b := valH_inj (by unfold hk at h; omega)
def ltH (a b : H32) : Bool := decide (hk a < hk b)
theorem ltOf_cmpH : ltOf cmpH = ltH := by
  funext a b
  unfold ltOf ltH
  rw [cmpH_val]
  congr 1
  exact propext (cmpI_neg _ _)
theorem swo_cmpH : Go.Sort.SWO (ltOf cmpH) := by
  rw [ltOf_cmpH]
  exact ⟨fun x => by simp [ltH], fun x y z h1 h2 => by simp [ltH] at *; omega, fun x y z h1 h2 => by simp [ltH] at *; omega⟩
def AscH (l : List H32) : Prop := l.Pairwise fun a b => hk a < hk b
theorem ascH_ext : ∀ {a b : List H32}, AscH a → AscH b → (∀ m, m ∈ a ↔ m ∈ b) → a = b
  | [], [], _, _, _ => rfl
  | [], y :: b, _, _, h => absurd ((h y).2 (List.mem_cons_self ..)) (by simp)
  | x :: a, [], _, _, h => absurd ((h x).1 (List.mem_cons_self ..)) (by simp)
  | x :: a, y :: b, ha, hb, h => by
    obtain ⟨a1, a2⟩ := List.pairwise_cons.1 ha
    obtain ⟨b1, b2⟩ := List.pairwise_cons.1 hb
    have hxy : x = y := by
      rcases List.mem_cons.1 ((h x).1 (List.mem_cons_self ..)) with e | e
      · exact e
      · rcases List.mem_cons.1 ((h y).2 (List.mem_cons_self ..)) with e' | e'
        · exact e'.symm
        · have := a1 y e'; have := b1 x e; omega
    subst hxy
    congr 1
    refine ascH_ext a2 b2 fun m => ⟨fun hm => ?_, fun hm => ?_⟩
    · rcases List.mem_cons.1 ((h m).1 (List.mem_cons_of_mem _ hm)) with e | e
      · subst e; have := a1 m hm; omega
      · exact e
    · rcases List.mem_cons.1 ((h m).2 (List.mem_cons_of_mem _ hm)) with e | e
      · subst e; have := b1 m hm; omega
      · exact e
def pack1H (acc : List H32) (x : H32) : List H32 := if acc.getLast? = some x then acc else acc ++ [x]
def packH (l : List H32) : List H32 := l.foldl pack1H []
theorem packH_snoc (l : List H32) (x : H32) : packH (l ++ [x]) = pack1H (packH l) x := by simp [packH]
theorem packH_last (l : List H32) : (packH l).getLast? = l.getLast? := by
  rcases List.eq_nil_or_concat l with rfl | ⟨l, x, rfl⟩
  · rfl
  · rw [List.concat_eq_append, packH_snoc, List.getLast?_append]
    unfold pack1H
    split
    · rename_i h; rw [h]; rfl
    · simp
theorem packH_take (l : List H32) (i : Nat) (h : i + 1 < l.length) : packH (l.take (i + 2)) = if l[i] = l[i + 1] then packH (l.take (i + 1)) else packH (l.take (i + 1)) ++ [l[i + 1]] := by
  rw [List.take_succ_eq_append_getElem h, packH_snoc]
  unfold pack1H
  have e : (packH (l.take (i + 1))).getLast? = some l[i] := by
    rw [packH_last, List.take_succ_eq_append_getElem (by omega), List.getLast?_append]
    simp
  rw [e]
  by_cases h2 : l[i] = l[i + 1]
  · rw [if_pos (by rw [h2]), if_pos h2]
  · rw [if_neg (fun h => h2 (Option.some.inj h)), if_neg h2]
theorem packH_len (l : List H32) : (packH l).length ≤ l.length := by
  induction l using rev_ind with
  | h0 => simp [packH]
  | h1 l x ih => ?_
  · rw [packH_snoc]
    unfold pack1H
    split
    · simp; omega
    · simp; omega
theorem packH_mem (l : List H32) (m : H32) : m ∈ packH l ↔ m ∈ l := by
  induction l using rev_ind with
  | h0 => simp [packH]
  | h1 l x ih => ?_
  · rw [packH_snoc, List.mem_append, List.mem_singleton]
    unfold pack1H
    split
    · rename_i h
      have : x ∈ packH l := List.mem_of_getLast? h
      rw [ih]
      constructor
      · exact .inl
      · rintro (h | rfl)
        · exact h
        · exact ih.1 this
    · rw [List.mem_append, List.mem_singleton, ih]
theorem packH_asc (l : List H32) (h : l.Pairwise fun a b => ltH b a = false) : AscH (packH l) := by
  induction l using rev_ind with
  | h0 => exact List.Pairwise.nil
  | h1 l x ih => ?_
  · obtain ⟨h1, _, h3⟩ := List.pairwise_append.1 h
    have ih := ih h1
    rw [packH_snoc]
    unfold pack1H
    split
    · exact ih
    · rename_i hn
      refine List.pairwise_append.2 ⟨ih, List.pairwise_singleton _ _, fun a ha b hb => ?_⟩
      obtain rfl := List.mem_singleton.1 hb
      have h4 := h3 a ((packH_mem l a).1 ha) b (List.mem_singleton.2 rfl)
      have h5 : ¬ hk b < hk a := by simpa [ltH] using h4
      rcases Int.lt_trichotomy (hk a) (hk b) with h6 | h6 | h6
      · exact h6
      · exfalso
        have e := hk_inj h6
        subst e
        obtain ⟨i, hi, hia⟩ := List.getElem_of_mem ha
        have hne : packH l ≠ [] := fun h => by rw [h] at hi; simp at hi
        rcases Nat.lt_or_ge (i + 1) (packH l).length with h7 | h7
        · have hz := (List.pairwise_iff_getElem.1 ih) i ((packH l).length - 1) hi (by omega) (by omega)
          have hlast : (packH l)[(packH l).length - 1] ∈ packH l := List.getElem_mem _
          have := h3 _ ((packH_mem l _).1 hlast) a (List.mem_singleton.2 rfl)
          simp only [ltH, decide_eq_false_iff_not] at this
          rw [hia] at hz
          omega
        · apply hn
          rw [List.getLast?_eq_getElem?, show (packH l).length - 1 = i by omega, List.getElem?_eq_getElem hi, hia]
      · exact absurd h6 h5
def sortH (l : List H32) : List H32 := (lineM (l.map fun h => ((0 : Int), h))).map (·.2)
theorem lineM_zero (l : List H32) : ∀ m ∈ lineM (l.map fun h => ((0 : Int), h)), m.1 = 0 := fun m hm => by
  rw [mem_lineM] at hm
  obtain ⟨h, _, rfl⟩ := List.mem_map.1 hm
  rfl
theorem mem_sortH (l : List H32) (h : H32) : h ∈ sortH l ↔ h ∈ l := by
  unfold sortH
  rw [List.mem_map]
  constructor
  · rintro ⟨m, hm, rfl⟩
    rw [mem_lineM] at hm
    obtain ⟨x, hx, rfl⟩ := List.mem_map.1 hm
    exact hx
  · intro hh
    exact ⟨(0, h), (mem_lineM _ _).2 (List.mem_map.2 ⟨h, hh, rfl⟩), rfl⟩
theorem ascH_sortH (l : List H32) : AscH (sortH l) := by
  have h1 := asc_lineM (l.map fun h => ((0 : Int), h))
  have h2 := lineM_zero l
  unfold AscH sortH
  rw [List.pairwise_map]
  refine (List.Pairwise.imp_of_mem ?_ h1)
  intro a b ha hb hab
  have := h2 a ha
  have := h2 b hb
  unfold key at hab
  unfold hk
  simp_all
theorem sortH_len (l : List H32) : (sortH l).length ≤ l.length := by
  have := lineM_len (l.map fun h => ((0 : Int), h))
  rw [List.length_map] at this
  unfold sortH
  rw [List.length_map]
  exact this
theorem packH_sort {l l' : List H32} (hp : l'.Perm l) (hs : l'.Pairwise fun a b => ltOf cmpH b a = false) : packH l' = sortH l := by
  rw [ltOf_cmpH] at hs
  exact ascH_ext (packH_asc l' hs) (ascH_sortH l) fun m => by rw [packH_mem, mem_sortH, hp.mem_iff]
end Go.Proofs.YtonncfminojejaaGreatDoor

namespace Go.Proofs.YtonncfminojejaaGreatDoor
open Go.RowKit
theorem calls_fin {P : Program} {g : FuncId} {args : List D} {S : St} {K : D → St → Prop} (h : DCalls P g args S fun d T => DFinT P S T d K) : DCalls P g args S K := fun base η w vs hM hr => by
  rcases h base η w vs hM hr with ⟨h1, h2⟩ | ⟨d, S', η', v, w', h1, ⟨S1, d1, t1, d', S'', q1, q2, q3, q4, q5, q6⟩, h3, h4⟩
  · refine .inl ⟨h1, h2.mono fun e w' ⟨d, S', η', v, ⟨S1, d1, t1, d', S'', q1, q2, q3, q4, q5, q6⟩, he, h3, h4⟩ => ?_⟩
    obtain ⟨η3, t2, t3⟩ := t1 _ _ _ _ h4.mem h3
    obtain ⟨g1, g2⟩ := goes_fin hM (h4.trans t2) q3 q4 q5
    exact ⟨d', S'', _, v, q6, he, g2 d' v q2 (q1 _ _ _ _ _ t3), g1⟩
  · obtain ⟨η3, t2, t3⟩ := t1 _ _ _ _ h4.mem h3
    obtain ⟨g1, g2⟩ := goes_fin hM (h4.trans t2) q3 q4 q5
    exact .inr ⟨d', S'', _, v, w', h1, q6, g2 d' v q2 (q1 _ _ _ _ _ t3), g1⟩
theorem fin_same {S T : St} (hS : S.WF) {d : D} (hc : d.closed) (hs : S.Sub T) : DFin S T d (fun d' T' => d' = d ∧ T' = S) :=
  ⟨d, S, DLe.refl _, D.all_mono (fun _ h => h.elim) hc, hs.next, Nat.le_refl _, fun k o hk => ⟨hs.ob k o hk, hS.lt hk, fun _ _ _ => .inl hk⟩, rfl, rfl⟩
def cur (l : List DMk) (q : Nat) : List DMk := packM (l.take q) ++ l.drop (packM (l.take q)).length
section
set_option maxRecDepth 200000
set_option maxHeartbeats 4000000
end
end Go.Proofs.YtonncfminojejaaGreatDoor

namespace Go.Proofs.YtonncfminojejaaGreatDoor
open Go.RowKit Go.Sort Go.Shelf
instance : Inhabited DMk := ⟨(0, ⟨List.replicate 32 0, rfl⟩)⟩
section
set_option maxRecDepth 200000
set_option maxHeartbeats 4000000
variable {S : St}
end
end Go.Proofs.YtonncfminojejaaGreatDoor

namespace Go.Proofs.YtonncfminojejaaGreatDoor
open Go.RowKit
section
variable {P : Program} {f : Fm} {S : St} {K : D → St → Prop}
theorem pfinT_ret3 (t u v : Tmp) (S' : St) (d : D) : DQ.pfin P [.tmp t, .tmp u, .tmp v] S d .ret f S' = PFin S S' (.tup [f t, f u, f v]) d := by
  simp [DQ.pfin, dresL, dres, onVal, one]
theorem pfinT_normal3 (t u v : Tmp) (S' : St) (d : D) : DQ.pfin P [.tmp t, .tmp u, .tmp v] S d .normal f S' = PFin S S' (.tup [f t, f u, f v]) d := by
  simp [DQ.pfin, dresL, dres, onVal, one]
theorem inl_ret3 (t u v : Tmp) (S' : St) : DQ.inl P [.tmp t, .tmp u, .tmp v] K .ret f S' = K (.tup [f t, f u, f v]) S' := by simp [DQ.inl, dresL, dres, onVal, one]
theorem inl_normal3 (t u v : Tmp) (S' : St) : DQ.inl P [.tmp t, .tmp u, .tmp v] K .normal f S' = K (.tup [f t, f u, f v]) S' := by simp [DQ.inl, dresL, dres, onVal, one]
attribute [go_sem] pfinT_ret3 pfinT_normal3 inl_ret3 inl_normal3
end
theorem app_more {P : Program} {S : St} {t ty e : TypeId} {own own2 : Own} {es es2 : List D} {K : D → St → Prop} (he : elT P t = some e) (hz : zeroT P e = true) (h : own = .full ∨ ∃ g, own = .row g ∧ S.ob g = some (.row e es.length)) (hw : ∀ d ∈ es, d.width = szOf P e) (hx : ∀ d ∈ es2, d.width = szOf P e)
    (hb : es.length + es2.length ≤ 140737488355328) (hb2 : (es.length + es2.length) * bytesOf P e ≤ 140737488355328) (k : K (.sl (.row S.next) (es ++ es2)) (S.grow own e (es.length + es2.length))) : dapp P S t t ty (.sl own es) (.sl own2 es2) K := by
  refine dapp_row ?_
  simp only [dappend, he, hz, true_and, Option.isSome_some]
  refine ⟨hw, hx, ?_, hb, hb2, k⟩
  rcases h with rfl | ⟨g, rfl, h⟩
  · trivial
  · exact h
section
set_option maxRecDepth 200000
set_option maxHeartbeats 4000000
end
end Go.Proofs.YtonncfminojejaaGreatDoor

namespace Go.Proofs.YtonncfminojejaaGreatDoor
open Go.RowKit
theorem frz_encH (h : H32) : (encH h).frz = encH h := by simp [encH, D.frz, frzL_map, bD, Function.comp_def]
theorem frz_Hs (l : List H32) : frzL (l.map encH) = l.map encH := by simp [frzL_map, frz_encH, Function.comp_def]
theorem closed_encH (h : H32) : (encH h).closed := by
  simp only [encH, D.closed, D.all]
  refine allL_iff.2 fun d hd => ?_
  obtain ⟨b, _, rfl⟩ := List.mem_map.1 hd
  simp [bD, D.all]
theorem closed_Hs (l : List H32) : (D.sl .no (l.map encH)).closed := by
  simp only [D.closed, D.all, Own.all, true_and]
  refine allL_iff.2 fun d hd => ?_
  obtain ⟨m, _, rfl⟩ := List.mem_map.1 hd
  exact closed_encH m
theorem wHs (l : List H32) : ∀ d ∈ l.map encH, d.width = 32 := fun d hd => by obtain ⟨m, _, rfl⟩ := List.mem_map.1 hd; exact width_encH m
section
set_option maxRecDepth 200000
set_option maxHeartbeats 4000000
theorem hashes_d (own own2 : Own) (a b : List H32) (ha : a.length ≤ 1000000) : DPure Tryz.prog 38 [.sl own (a.map encH), .sl own2 (b.map encH)] (.v (.bool (decide (a = b)))) := by
  refine dpure_of_dwp mixed Tryz.func38 rfl (fun _ _ => by kernel_rfl) (rs := [.tmp 4]) rfl (by kernel_rfl) trivial (fun S hS => ?_)
  by_cases hl : a.length = b.length
  · have b0 : ((a.length : Int) != (b.length : Int)) = false := by simp [hl]
    (simp (disch := first | decide | omega | (simp only [nx]; first | done | omega)) only [go_sem, b0]; (repeat with_reducible refine aI ?_))
    (refine dloop_st (fun t => List.contains [4, 5, 11, 12, 13, 14, 15, 16, 17, 18, 19, 20, 21, 22, 23, 24, 25] t) (by kernel_rfl) ?_ (a.length) (fun i f => i ≤ a.length ∧ f 5 = .v (.int .i64 (i : Nat)) ∧ (∀ j, j < i → a[j]? = b[j]?)) ?_ ?_; (exact (by (repeat' first | assumption | refine St.WF.leave ?_ _ | refine St.WF.add ?_ _ | refine St.WF.set ?_ ?_ _ | refine St.WF.grow ?_ _ _ _ | refine St.WF.keep ?_ ?_ | (first | omega | (simp only [RowOk.lo, nx]; first | done | omega))))); (exact ⟨(by omega), (by (first | (simp (disch := first | decide | omega | (simp only [nx]; first | done | omega)) only [go_sem]; first | done | rfl) | rfl)), (fun j h => by omega)⟩); intro i g tn hn hT hg hI; obtain ⟨le, q5, hs⟩ := hI; have q0 := hg 0 rfl; have q1 := hg 1 rfl; simp (disch := first | decide | omega | (simp only [nx]; first | done | omega)) only [go_sem] at q0 q1; clear hg; have hn' := hn; try simp only [add_next, set_next, grow_next, leave_next, drop_next] at hn')
    by_cases hlt : i < a.length
    · have b1 : decide ((i : Int) < (a.length : Int)) = true := by simp; omega
      have w1 : IntKind.i64.wrap ((i : Int) + 1) = ((i + 1 : Nat) : Int) := IntWalk.i64_in _ ⟨by omega, by omega⟩
      have hlt' : i < b.length := by omega
      have la := a[i].2
      have lb := b[i].2
      (simp (disch := first | decide | omega | (simp only [nx]; first | done | omega)) only [go_sem, q0, q1, q5, b1]; (repeat with_reducible refine aI ?_))
      refine ddraw_mk 9 (by kernel_rfl) ?_
      (simp (disch := first | decide | omega | (simp only [nx]; first | done | omega)) only [go_sem, q0, q1, q5, hlt, hlt', la, lb]; (repeat with_reducible refine aI ?_))
      by_cases he : a[i] = b[i]
      · have b2 : (!decide (a[i] = b[i])) = false := by simp [he]
        (simp (disch := first | decide | omega | (simp only [nx]; first | done | omega)) only [go_sem, b2, q5, w1]; (repeat with_reducible refine aI ?_))
        (refine ⟨by omega, (by (repeat' first | assumption | exact St.Sub.refl _ | exact RowOk.sub (by assumption) (by assumption) | refine St.Sub.trans ?_ (RowOk.sub (by assumption) (by assumption)) | refine St.Sub.add ?_ ?_ _ | refine St.Sub.set ?_ ?_ ?_ _ | refine St.Sub.keep ?_ ?_ | refine St.WF.leave ?_ _ | refine St.WF.add ?_ _ | refine St.WF.set ?_ ?_ _ | refine St.WF.grow ?_ _ _ _ | refine St.WF.keep ?_ ?_ | (first | omega | (simp only [RowOk.lo, nx]; first | done | omega)))), ?_⟩; refine ⟨by omega, ?_, ?_⟩; all_goals (try (first | (simp (disch := first | decide | omega | (simp only [nx]; first | done | omega)) only [go_sem, w1]; first | done | rfl) | rfl)))
        intro j hj
        by_cases e : j = i
        · subst e; rw [List.getElem?_eq_getElem hlt, List.getElem?_eq_getElem hlt', he]
        · exact hs j (by omega)
      · have b2 : (!decide (a[i] = b[i])) = true := by simp [he]
        (simp (disch := first | decide | omega | (simp only [nx]; first | done | omega)) only [go_sem, b2]; (repeat with_reducible refine aI ?_))
        refine ⟨?_, (by (repeat' first | assumption | exact St.Sub.refl _ | exact RowOk.sub (by assumption) (by assumption) | refine St.Sub.trans ?_ (RowOk.sub (by assumption) (by assumption)) | refine St.Sub.add ?_ ?_ _ | refine St.Sub.set ?_ ?_ ?_ _ | refine St.Sub.keep ?_ ?_ | refine St.WF.leave ?_ _ | refine St.WF.add ?_ _ | refine St.WF.set ?_ ?_ _ | refine St.WF.grow ?_ _ _ _ | refine St.WF.keep ?_ ?_ | (first | omega | (simp only [RowOk.lo, nx]; first | done | omega))))⟩
        have : a ≠ b := fun h => he (by subst h; rfl)
        simp [D.frz, this]
    · have b1 : decide ((i : Int) < (a.length : Int)) = false := by simp; omega
      (simp (disch := first | decide | omega | (simp only [nx]; first | done | omega)) only [go_sem, q0, q5, b1]; (repeat with_reducible refine aI ?_))
      refine ⟨?_, (by (repeat' first | assumption | exact St.Sub.refl _ | exact RowOk.sub (by assumption) (by assumption) | refine St.Sub.trans ?_ (RowOk.sub (by assumption) (by assumption)) | refine St.Sub.add ?_ ?_ _ | refine St.Sub.set ?_ ?_ ?_ _ | refine St.Sub.keep ?_ ?_ | refine St.WF.leave ?_ _ | refine St.WF.add ?_ _ | refine St.WF.set ?_ ?_ _ | refine St.WF.grow ?_ _ _ _ | refine St.WF.keep ?_ ?_ | (first | omega | (simp only [RowOk.lo, nx]; first | done | omega))))⟩
      have : a = b := List.ext_getElem? fun j => by
        by_cases hj : j < i
        · exact hs j hj
        · rw [List.getElem?_eq_none (by omega), List.getElem?_eq_none (by omega)]
      simp [D.frz, this]
  · have b0 : ((a.length : Int) != (b.length : Int)) = true := by simp; omega
    (simp (disch := first | decide | omega | (simp only [nx]; first | done | omega)) only [go_sem, b0]; (repeat with_reducible refine aI ?_))
    refine ⟨?_, (by (repeat' first | assumption | exact St.Sub.refl _ | exact RowOk.sub (by assumption) (by assumption) | refine St.Sub.trans ?_ (RowOk.sub (by assumption) (by assumption)) | refine St.Sub.add ?_ ?_ _ | refine St.Sub.set ?_ ?_ ?_ _ | refine St.Sub.keep ?_ ?_ | refine St.WF.leave ?_ _ | refine St.WF.add ?_ _ | refine St.WF.set ?_ ?_ _ | refine St.WF.grow ?_ _ _ _ | refine St.WF.keep ?_ ?_ | (first | omega | (simp only [RowOk.lo, nx]; first | done | omega))))⟩
    have : a ≠ b := fun h => hl (by rw [h])
    simp [D.frz, this]
end
end Go.Proofs.YtonncfminojejaaGreatDoor

namespace Go.Proofs.YtonncfminojejaaGreatDoor
open Go.RowKit
theorem elHs : elT Tryz.prog 25 = some 45 := by kernel_rfl
theorem szHs : szOf Tryz.prog 45 = 32 := by kernel_rfl
theorem byHs : bytesOf Tryz.prog 45 = 32 := by kernel_rfl
theorem zeHs : zeroT Tryz.prog 45 = true := by kernel_rfl
theorem zoHs : zeroOk Tryz.prog 45 = true := by kernel_rfl
theorem flatHs_len (l : List H32) : (flat (l.map encH)).length = l.length * 32 := by rw [dflat_length (wHs l), List.length_map]
theorem hs_at {l : List H32} {zs : List D} {i : Nat} (hi : i < l.length) : ((flat (l.map encH) ++ zs).drop (i * 32)).take 32 = (l[i].1.map bD) := by
  have hf := flatHs_len (l.take i)
  rw [List.length_take, Nat.min_eq_left (by omega)] at hf
  have e : l = l.take i ++ l[i] :: l.drop (i + 1) := by rw [← List.drop_eq_getElem_cons hi, List.take_append_drop]
  have e2 : flat (l.map encH) = flat ((l.take i).map encH) ++ ((l[i].1.map bD) ++ flat ((l.drop (i + 1)).map encH)) := by
    conv => lhs; rw [e]
    rw [List.map_append, List.map_cons, flat_append, flat_cons, cells_encH]
  rw [e2, List.append_assoc, List.drop_append_of_le_length (by omega), List.drop_of_length_le (by omega), List.nil_append, List.append_assoc, List.take_append_of_le_length (by rw [len_encH]; omega), take_hash]
structure OwnH (T : St) (k c : Nat) (zs : List D) (l : List H32) : Prop where
  ob : T.ob k = some (ownOb 45 (l.map encH) zs c)
  ln : (flat (l.map encH) ++ zs).length = c * 32
  lt : k < T.next
theorem OwnH.le {T : St} {k c : Nat} {zs : List D} {l : List H32} (h : OwnH T k c zs l) : l.length ≤ c := by
  have := ownOb_len (wHs l) (by omega) h.ln
  rwa [List.length_map] at this
theorem OwnH.pos {T : St} {k c : Nat} {zs : List D} {l : List H32} (h : OwnH T k c zs l) (hl : 0 < l.length) : T.ob k = some (.box 45 (flat (l.map encH) ++ zs)) := by
  have h1 := h.le
  have h2 := h.ob
  rwa [ownOb_box (by omega)] at h2
theorem thawH {T : St} {k c : Nat} {zs : List D} {l : List H32} (h : OwnH T k c zs l) {d d1 : D} (hd : d.thaw k (l.map encH) = d1) : Thaw Tryz.prog T d (T.drop k) d1 := thaw_own h.ob (by rw [List.length_map]; exact h.le) (by rw [szHs]; omega) (by rw [szHs]; exact wHs l) hd
theorem dpure_ownH {g : FuncId} {args : List D} {l : List H32} (h : ∀ S : St, S.WF → DCalls Tryz.prog g args S fun d T => ∃ k c zs, d = .win k 0 l.length c ∧ S.next ≤ k ∧ OwnH T k c zs l ∧ S.Sub T) : DPure Tryz.prog g args (.sl .no (l.map encH)) := fun S base η w vs hM hr =>
  calls_fin ((h S hM.fresh).mono fun d T ⟨k, c, zs, e, hk, ho, hs⟩ => ⟨T.drop k, .sl .no (l.map encH), by
    subst e
    refine thawH ho ?_
    simp only [D.thaw, List.length_map, Nat.beq_refl, Bool.and_self, cond_true], fin_same hM.fresh (closed_Hs l) ⟨hs.next, fun j o hj => by
    have := St.WF.lt (S := S) hM.fresh hj
    simp only [St.drop]
    rw [if_neg (by omega)]
    exact hs.ob j o hj⟩⟩) base η w vs hM hr
def curH (l : List H32) (q : Nat) : List H32 := packH (l.take q) ++ l.drop (packH (l.take q)).length
theorem packH_takeLen (l : List H32) (q : Nat) : (packH (l.take q)).length ≤ q ∧ (packH (l.take q)).length ≤ l.length := by
  have h := packH_len (l.take q)
  rw [List.length_take] at h
  omega
theorem curH_len (l : List H32) (q : Nat) : (curH l q).length = l.length := by
  have := packH_takeLen l q
  rw [curH, List.length_append, List.length_drop]
  omega
theorem curH_at (l : List H32) (q i : Nat) (h : (packH (l.take q)).length ≤ i) (hi : i < l.length) : (curH l q)[i]'(by rw [curH_len]; exact hi) = l[i] := by
  unfold curH
  rw [List.getElem_append_right h, List.getElem_drop]
  congr 1
  omega
theorem curH_none {l : List H32} {q : Nat} (h : packH (l.take q) = l.take q) : curH l q = l := by
  unfold curH
  rw [h, List.length_take]
  rcases Nat.lt_or_ge q l.length with h1 | h1
  · rw [Nat.min_eq_left (by omega), List.take_append_drop]
  · rw [List.take_of_length_le h1, List.drop_of_length_le (by omega), List.append_nil]
theorem curH_same {l : List H32} {i : Nat} (h : i + 1 < l.length) (he : l[i] = l[i + 1]) : curH l (i + 2) = curH l (i + 1) := by
  unfold curH
  rw [packH_take l i h, if_pos he]
theorem curH_new {l : List H32} {i : Nat} (h : i + 1 < l.length) (he : l[i] ≠ l[i + 1]) (hp : (packH (l.take (i + 1))).length < l.length) : curH l (i + 2) = (curH l (i + 1)).set (packH (l.take (i + 1))).length l[i + 1] := by
  unfold curH
  rw [packH_take l i h, if_neg he, List.set_append_right _ _ (Nat.le_refl _), Nat.sub_self, List.drop_eq_getElem_cons hp, List.set_cons_zero, List.length_append, List.append_assoc]
  rfl
section
set_option maxRecDepth 200000
set_option maxHeartbeats 4000000
theorem compactH_w {S : St} {k c : Nat} {zs : List D} (l : List H32) (ho : OwnH S k c zs l) (hlen : l.length ≤ 1000000) :
    DCalls Tryz.prog 85 [.win k 0 l.length c] S (fun d T => ∃ zs', d = .win k 0 (packH l).length c ∧ OwnH T k c zs' (packH l) ∧ S.next ≤ T.next ∧ ∀ j o, j ≠ k → S.ob j = some o → T.ob j = some o) := by
  have hle := ho.le
  have hlt := ho.lt
  refine dcalls_inline mixed Tryz.func85 rfl (fun _ _ => by kernel_rfl) (rs := [.tmp 2]) rfl (by kernel_rfl) (fun hS => ?_)
  by_cases h2 : l.length < 2
  · have b1 : decide ((l.length : Int) < 2) = true := by simp; omega
    have hp : packH l = l := by
      match l, h2 with
      | [], _ => rfl
      | [x], _ => rfl
    (simp (disch := first | decide | omega | (simp only [nx]; first | done | omega)) only [go_sem, b1]; (repeat with_reducible refine aI ?_))
    rw [hp]
    exact ⟨zs, rfl, ho, Nat.le_refl _, fun _ _ _ h => h⟩
  have b1 : decide ((l.length : Int) < 2) = false := by simp; omega
  have hk := ho.pos (by omega)
  (simp (disch := first | decide | omega | (simp only [nx]; first | done | omega)) only [go_sem, b1]; (repeat with_reducible refine aI ?_))
  (refine dloop_st (fun t => List.contains [2, 3, 4, 5, 10, 11, 12, 13, 14, 15, 16, 17, 18, 19, 20, 21, 22, 23, 24, 25, 26, 27, 28, 29, 30, 31, 32, 33, 34, 35, 36, 37, 38, 39, 40, 41, 42, 43, 44, 45, 46, 47, 48, 49, 50, 51, 52, 53, 54, 55, 56, 57, 58, 59] t) (by kernel_rfl) ?_ (l.length) (fun i f => i ≤ l.length ∧ f 3 = .v (.int .i64 ((i + 1 : Nat))) ∧ f 2 = .sl .full [] ∧ (packH (l.take (i + 1)) = l.take (i + 1))) ?_ ?_; (exact (by (repeat' first | assumption | refine St.WF.leave ?_ _ | refine St.WF.add ?_ _ | refine St.WF.set ?_ ?_ _ | refine St.WF.grow ?_ _ _ _ | refine St.WF.keep ?_ ?_ | (first | omega | (simp only [RowOk.lo, nx]; first | done | omega))))); (exact ⟨(by omega), (by (first | (simp (disch := first | decide | omega | (simp only [nx]; first | done | omega)) only [go_sem]; first | done | rfl) | rfl)), (by (first | (simp (disch := first | decide | omega | (simp only [nx]; first | done | omega)) only [go_sem]; first | done | rfl) | rfl)), (by rw [List.take_succ_eq_append_getElem (by omega)]; rfl)⟩); intro i g tn hn hT hg hI; obtain ⟨le, q3, q2, hp⟩ := hI; have q0 := hg 0 rfl; simp (disch := first | decide | omega | (simp only [nx]; first | done | omega)) only [go_sem] at q0; clear hg; have hn' := hn; try simp only [add_next, set_next, grow_next, leave_next, drop_next] at hn')
  by_cases hlt1 : i + 1 < l.length
  · have b2 : decide (((i + 1 : Nat) : Int) < (l.length : Int)) = true := by simp; omega
    have w0 : IntKind.i64.wrap (((i + 1 : Nat) : Int) - 1) = ((i : Nat) : Int) := by rw [IntKind.wrap_i64]; omega
    have w1 : IntKind.i64.wrap (((i + 1 : Nat) : Int) + 1) = ((i + 1 + 1 : Nat) : Int) := IntWalk.i64_in _ ⟨by omega, by omega⟩
    have hcs := ho.ln
    have m1 := hs_at (zs := zs) hlt1
    have m2 := hs_at (zs := zs) (by omega : i < l.length)
    by_cases he : l[i + 1] = l[i]
    · have b3 : decide (l[i + 1] = l[i]) = true := decide_eq_true he
      have hq : packH (l.take (i + 2)) = l.take (i + 1) := by rw [packH_take l i hlt1, if_pos he.symm, hp]
      (simp (disch := first | decide | omega | (simp only [nx]; first | done | omega)) only [go_sem, q0, q3, q2, b2]; (repeat with_reducible refine aI ?_))
      refine ddraw_mk 10 (by kernel_rfl) ?_
      (simp (disch := first | decide | omega | (simp only [nx]; first | done | omega)) only [go_sem, q0, q3, q2, b2, w0, hk, Nat.zero_add, hcs, m1, m2, b3]; (repeat with_reducible refine aI ?_))
      rw [winOff_lt (by omega)]
      have hq0 : (packH (l.take (i + 2 + 0))).length = i + 1 := by rw [Nat.add_zero, hq, List.length_take]; omega
      have hk : S.ob k = some (.box 45 (flat ((curH l (i + 2 + 0)).map encH) ++ zs)) := by rw [Nat.add_zero, curH_same hlt1 he.symm, curH_none hp]; exact hk
      (refine dloop_var (fun t => List.contains [3, 5, 29, 30, 31, 32, 33, 34, 35, 36, 37, 38, 39, 40, 41, 42, 43, 44, 45, 46, 47, 48, 49, 50, 51, 52, 53] t) (by kernel_rfl) ?_ (l.length - (i + 2)) (k) (fun ij => .box 45 (flat ((curH l (i + 2 + ij)).map encH) ++ zs)) ?_ (fun ij f => ij ≤ l.length - (i + 2) ∧ f 3 = .v (.int .i64 (((packH (l.take (i + 2 + ij))).length : Nat))) ∧ f 5 = .v (.int .i64 ((ij + 1 : Nat))) ∧ ((packH (l.take (i + 2 + ij))).length ≤ i + 1 + ij)) ?_ ?_; (exact (by (repeat' first | assumption | refine St.WF.leave ?_ _ | refine St.WF.add ?_ _ | refine St.WF.set ?_ ?_ _ | refine St.WF.grow ?_ _ _ _ | refine St.WF.keep ?_ ?_ | (first | omega | (simp only [RowOk.lo, nx]; first | done | omega))))); (exact (by (first | (first | (simp (disch := first | decide | omega | (simp only [nx]; first | done | omega)) only [go_sem]; first | done | rfl) | rfl) | (first | (simp (disch := first | decide | omega | (simp only [nx]; first | done | omega)) only [go_sem, q3, hq0, hk]; first | done | rfl) | rfl)))); (exact ⟨(by omega), (by (first | (simp (disch := first | decide | omega | (simp only [nx]; first | done | omega)) only [go_sem, q3, hq0, hk]; first | done | rfl) | rfl)), (by (first | (simp (disch := first | decide | omega | (simp only [nx]; first | done | omega)) only [go_sem, q3, hq0, hk]; first | done | rfl) | rfl)), (by omega)⟩); intro ij gj tnj hnj hTj hgj hIj; obtain ⟨lej, q3j, q5j, hpj⟩ := hIj; have q0j := hgj 0 rfl; have q2j := hgj 2 rfl; have q4j := hgj 4 rfl; simp (disch := first | decide | omega | (simp only [nx]; first | done | omega)) only [go_sem, q3, hq0, hk] at q0j q2j q4j; clear hgj; have hnj' := hnj; try simp only [add_next, set_next, grow_next, leave_next, drop_next] at hnj')
      by_cases hlt2 : i + 2 + ij < l.length
      · have b4 : decide (((ij + 1 : Nat) : Int) < ((l.length - (i + 1) : Nat) : Int)) = true := by simp; omega
        have w2 : IntKind.i64.wrap (((ij + 1 : Nat) : Int) - 1) = ((ij : Nat) : Int) := by rw [IntKind.wrap_i64]; omega
        have w3 : IntKind.i64.wrap (((ij + 1 : Nat) : Int) + 1) = ((ij + 1 + 1 : Nat) : Int) := IntWalk.i64_in _ ⟨by omega, by omega⟩
        have hcl := curH_len l (i + 2 + ij)
        have hcs2 : (flat ((curH l (i + 2 + ij)).map encH) ++ zs).length = c * 32 := by
          have := ho.ln
          simp only [List.length_append, flatHs_len, hcl] at this ⊢
          exact this
        have m3 := hs_at (l := curH l (i + 2 + ij)) (zs := zs) (by omega : i + 2 + ij < _)
        have m4 := hs_at (l := curH l (i + 2 + ij)) (zs := zs) (by omega : i + 1 + ij < _)
        rw [curH_at l _ _ (by omega) (by omega)] at m3 m4
        have x3 : (i + 1) * 32 + (ij + 1) * 32 = (i + 2 + ij) * 32 := by omega
        have x4 : (i + 1) * 32 + ij * 32 = (i + 1 + ij) * 32 := by omega
        (simp (disch := first | decide | omega | (simp only [nx]; first | done | omega)) only [go_sem, q0j, q3j, q4j, q5j, b4]; (repeat with_reducible refine aI ?_))
        refine ddraw_mk 10 (by kernel_rfl) ?_
        (simp (disch := first | decide | omega | (simp only [nx]; first | done | omega)) only [go_sem, q0j, q3j, q4j, q5j, b4, w2, Nat.zero_add, hcs2, x3, x4, m3, m4]; (repeat with_reducible refine aI ?_))
        have y2 : i + 2 + (ij + 1) = i + 1 + ij + 2 := by omega
        have y1 : i + 2 + ij = i + 1 + ij + 1 := by omega
        have hlt3 : i + 1 + ij + 1 < l.length := by omega
        have hpP : (packH (l.take (i + 2 + ij))).length < l.length := by omega
        by_cases he2 : l[i + 2 + ij] = l[i + 1 + ij]
        · have b5 : (!decide (l[i + 2 + ij] = l[i + 1 + ij])) = false := by simp [he2]
          (simp (disch := first | decide | omega | (simp only [nx]; first | done | omega)) only [go_sem, b5, q5j, w3]; (repeat with_reducible refine aI ?_))
          have he3 : l[i + 1 + ij] = l[i + 1 + ij + 1] := by rw [← he2]; congr 1
          have e1 : packH (l.take (i + 2 + (ij + 1))) = packH (l.take (i + 2 + ij)) := by rw [y2, y1, packH_take l _ hlt3, if_pos he3]
          have e2 : curH l (i + 2 + (ij + 1)) = curH l (i + 2 + ij) := by unfold curH; rw [e1]
          refine ⟨by omega, ?_, by omega, ?_, ?_, by rw [e1]; omega⟩
          · show (St.set _ k (Ob.box _ (flat ((curH l (i + 2 + (ij + 1))).map encH) ++ zs))).Sub _
            rw [e2]
            exact ⟨hnj, fun _ _ h => h⟩
          · rw [e1]; (first | (simp (disch := first | decide | omega | (simp only [nx]; first | done | omega)) only [go_sem, q3j]; first | done | rfl) | rfl)
          · (first | (simp (disch := first | decide | omega | (simp only [nx]; first | done | omega)) only [go_sem, w3]; first | done | rfl) | rfl)
        · have b5 : (!decide (l[i + 2 + ij] = l[i + 1 + ij])) = true := by simp [he2]
          have w4 : IntKind.i64.wrap (((packH (l.take (i + 2 + ij))).length : Int) + 1) = (((packH (l.take (i + 2 + ij))).length + 1 : Nat) : Int) := IntWalk.i64_in _ ⟨by omega, by omega⟩
          have lw := l[i + 2 + ij].2
          (simp (disch := first | decide | omega | (simp only [nx]; first | done | omega)) only [go_sem, b5, q0, q0j, q3j, q4j, q5j, Nat.zero_add, hcs2, x3, m3, w3, w4, hcl, lw]; (repeat with_reducible refine aI ?_))
          have he3 : ¬ l[i + 1 + ij] = l[i + 1 + ij + 1] := fun h => he2 (by rw [h]; congr 1)
          have e1 : (packH (l.take (i + 2 + (ij + 1)))).length = (packH (l.take (i + 2 + ij))).length + 1 := by rw [y2, y1, packH_take l _ hlt3, if_neg he3, List.length_append]; rfl
          have e2 : curH l (i + 2 + (ij + 1)) = (curH l (i + 2 + ij)).set (packH (l.take (i + 2 + ij))).length l[i + 2 + ij] := by
            have := curH_new hlt3 he3 (by rw [← y1]; exact hpP)
            have e6 : l[i + 1 + ij + 1] = l[i + 2 + ij] := by congr 1; omega
            rw [e6, ← y1, ← y2] at this
            exact this
          refine ⟨by omega, ?_, by omega, ?_, ?_, by omega⟩
          · show (St.set _ k (Ob.box _ (flat ((curH l (i + 2 + (ij + 1))).map encH) ++ zs))).Sub _
            have key := splice_flat' (es := (curH l (i + 2 + ij)).map encH) (zs := zs) (z := 32) (i := (packH (l.take (i + 2 + ij))).length) (y := encH l[i + 2 + ij]) (by rw [List.length_map]; omega) (wHs _) (width_encH _)
            rw [cells_encH] at key
            rw [key, e2, List.map_set]
            exact St.Sub.upd hnj rfl (St.Sub.refl _)
          · rw [e1]; (first | (simp (disch := first | decide | omega | (simp only [nx]; first | done | omega)) only [go_sem, q3j]; first | done | rfl) | rfl)
          · (first | (simp (disch := first | decide | omega | (simp only [nx]; first | done | omega)) only [go_sem, w3]; first | done | rfl) | rfl)
      · have b4 : decide (((ij + 1 : Nat) : Int) < ((l.length - (i + 1) : Nat) : Int)) = false := by simp; omega
        (simp (disch := first | decide | omega | (simp only [nx]; first | done | omega)) only [go_sem, q0, q0j, q3j, q4j, q5j, b4]; (repeat with_reducible refine aI ?_))
        have hie : i + 2 + ij = l.length := by omega
        have hpe : packH (l.take (i + 2 + ij)) = packH l := by rw [hie, List.take_length]
        have hcl := curH_len l (i + 2 + ij)
        have hcs2 : (flat ((curH l (i + 2 + ij)).map encH) ++ zs).length = c * 32 := by
          have := ho.ln
          simp only [List.length_append, flatHs_len, hcl] at this ⊢
          exact this
        have hpl := packH_len l
        have hmul : (l.length - (packH l).length) * 32 + (packH l).length * 32 = l.length * 32 := by rw [← Nat.add_mul]; congr 1; omega
        have hcc := hcs2
        rw [List.length_append, flatHs_len, hcl] at hcc
        rw [hpe] at hpj ⊢
        rw [winOff_lt (by omega), Nat.zero_add]
        refine dclear_win elHs zeHs zoHs (bt := 45) (cs := flat ((curH l (i + 2 + ij)).map encH) ++ zs) (by (first | (simp (disch := first | decide | omega | (simp only [nx]; first | done | omega)) only [go_sem]; first | done | rfl) | rfl)) (by rw [szHs, hcs2]; omega) fun z2 hz2 => ?_
        rw [szHs] at hz2
        have e5 : flat ((curH l (i + 2 + ij)).map encH) = flat ((packH l).map encH) ++ flat ((l.drop (packH l).length).map encH) := by rw [curH, hpe, List.map_append, flat_append]
        rw [e5, List.append_assoc, splice_at (by rw [flatHs_len])]
        (simp (disch := first | decide | omega | (simp only [nx]; first | done | omega)) only [go_sem, q0, q0j, q3j, hpe, winOff_zero]; (repeat with_reducible refine aI ?_))
        refine ⟨z2 ++ List.drop z2.length (flat (List.map encH (List.drop (packH l).length l)) ++ zs), ⟨?_, ?_, ?_⟩, by omega, ?_⟩
        · rw [ownOb_box (by omega)]
          simp only [St.set, if_true, List.append_assoc]
        · have h3 := flatHs_len (l.drop (packH l).length)
          rw [List.length_drop] at h3
          simp only [List.length_append, List.length_drop, flatHs_len] at hcc ⊢
          omega
        · show k < tnj
          omega
        · intro j o hj h
          simp only [St.set, if_neg hj]
          exact h
    · have b3 : decide (l[i + 1] = l[i]) = false := decide_eq_false he
      (simp (disch := first | decide | omega | (simp only [nx]; first | done | omega)) only [go_sem, q0, q3, q2, b2]; (repeat with_reducible refine aI ?_))
      refine ddraw_mk 10 (by kernel_rfl) ?_
      (simp (disch := first | decide | omega | (simp only [nx]; first | done | omega)) only [go_sem, q0, q3, q2, b2, w0, hk, Nat.zero_add, hcs, m1, m2, b3, w1]; (repeat with_reducible refine aI ?_))
      (refine ⟨by omega, (by (repeat' first | assumption | exact St.Sub.refl _ | exact RowOk.sub (by assumption) (by assumption) | refine St.Sub.trans ?_ (RowOk.sub (by assumption) (by assumption)) | refine St.Sub.add ?_ ?_ _ | refine St.Sub.set ?_ ?_ ?_ _ | refine St.Sub.keep ?_ ?_ | refine St.WF.leave ?_ _ | refine St.WF.add ?_ _ | refine St.WF.set ?_ ?_ _ | refine St.WF.grow ?_ _ _ _ | refine St.WF.keep ?_ ?_ | (first | omega | (simp only [RowOk.lo, nx]; first | done | omega)))), ?_⟩; refine ⟨by omega, ?_, ?_, ?_⟩; all_goals (try (first | (simp (disch := first | decide | omega | (simp only [nx]; first | done | omega)) only [go_sem, w1, q2]; first | done | rfl) | rfl)))
      rw [packH_take l i hlt1, if_neg (fun h => he h.symm), hp, ← List.take_succ_eq_append_getElem hlt1]
  · have b2 : decide (((i + 1 : Nat) : Int) < (l.length : Int)) = false := by simp; omega
    (simp (disch := first | decide | omega | (simp only [nx]; first | done | omega)) only [go_sem, q0, q3, q2, b2]; (repeat with_reducible refine aI ?_))
    have hp' : packH l = l := by
      have h3 : l.length ≤ i + 1 := by omega
      rw [List.take_of_length_le h3] at hp
      exact hp
    rw [hp']
    exact ⟨zs, rfl, ⟨ho.ob, ho.ln, by show k < tn; omega⟩, by omega, fun _ _ _ h => h⟩
end
end Go.Proofs.YtonncfminojejaaGreatDoor

namespace Go.Proofs.YtonncfminojejaaGreatDoor
open Go.RowKit Go.Sort Go.Shelf
def sortHsL_ren : Go.Shelf.Ren := ⟨fun | 6 => 82 | 15 => 92 | 14 => 91 | 28 => 102 | 29 => 103 | 20 => 94 | 21 => 95 | 22 => 96 | 23 => 97 | 24 => 98 | 25 => 99 | 26 => 100 | 27 => 101 | 46 => 105 | 47 => 106 | 48 => 107 | 49 => 108 | 50 => 109 | 57 => 110 | n => n, fun | 22 => 25 | 24 => 45 | 25 => 123 | 3 => 3 | 39 => 107 | 0 => 0 | 53 => 152 | 55 => 54 | 4 => 4 | 46 => 145 | 45 => 144 | 50 => 149 | 5 => 5 | 9 => 9 | 66 => 155 | 70 => 159 | 76 => 161 | 77 => 65 | n => n, fun | n => n⟩
theorem sortHsL : Go.Proofs.SlLaysF0.n6 Tryz.prog sortHsL_ren := {
  mixed := by kernel_rfl
  f6 := ⟨Tryz.f82.name, by decide, Tryz.func82.trans (congrArg some (by kernel_rfl))⟩
  f14 := ⟨Tryz.f91.name, by decide, Tryz.func91.trans (congrArg some (by kernel_rfl))⟩
  f15 := Tryz.func92.trans (congrArg some (by kernel_rfl))
  f20 := ⟨Tryz.f94.name, by decide, Tryz.func94.trans (congrArg some (by kernel_rfl))⟩
  f21 := ⟨Tryz.f95.name, by decide, Tryz.func95.trans (congrArg some (by kernel_rfl))⟩
  f22 := ⟨Tryz.f96.name, by decide, Tryz.func96.trans (congrArg some (by kernel_rfl))⟩
  f23 := ⟨Tryz.f97.name, by decide, Tryz.func97.trans (congrArg some (by kernel_rfl))⟩
  f24 := ⟨Tryz.f98.name, by decide, Tryz.func98.trans (congrArg some (by kernel_rfl))⟩
  f25 := ⟨Tryz.f99.name, by decide, Tryz.func99.trans (congrArg some (by kernel_rfl))⟩
  f26 := ⟨Tryz.f100.name, by decide, Tryz.func100.trans (congrArg some (by kernel_rfl))⟩
  f27 := ⟨Tryz.f101.name, by decide, Tryz.func101.trans (congrArg some (by kernel_rfl))⟩
  f28 := Tryz.func102.trans (congrArg some (by kernel_rfl))
  f29 := Tryz.func103.trans (congrArg some (by kernel_rfl))
  f46 := ⟨Tryz.f105.name, by decide, Tryz.func105.trans (congrArg some (by kernel_rfl))⟩
  f47 := Tryz.func106.trans (congrArg some (by kernel_rfl))
  f48 := Tryz.func107.trans (congrArg some (by kernel_rfl))
  f49 := ⟨Tryz.f108.name, by decide, Tryz.func108.trans (congrArg some (by kernel_rfl))⟩
  f50 := ⟨Tryz.f109.name, by decide, Tryz.func109.trans (congrArg some (by kernel_rfl))⟩
  f57 := ⟨Tryz.f110.name, by decide, Tryz.func110.trans (congrArg some (by kernel_rfl))⟩
  t0 := Tryz.underlying0
  a0 := Tryz.isAgg0
  z0 := Tryz.sizeOf0
  v0 := Tryz.zeroValue0
  t3 := Tryz.underlying3
  a3 := Tryz.isAgg3
  z3 := Tryz.sizeOf3
  v3 := Tryz.zeroValue3
  t4 := Tryz.underlying4
  a4 := Tryz.isAgg4
  z4 := Tryz.sizeOf4
  v4 := Tryz.zeroValue4
  t5 := Tryz.underlying5
  a5 := Tryz.isAgg5
  z5 := Tryz.sizeOf5
  v5 := Tryz.zeroValue5
  t9 := Tryz.underlying9
  a9 := Tryz.isAgg9
  z9 := Tryz.sizeOf9
  v9 := Tryz.zeroValue9
  t22 := Tryz.underlying25
  a22 := Tryz.isAgg25
  z22 := Tryz.sizeOf25
  v22 := Tryz.zeroValue25
  t25 := Tryz.underlying123
  a25 := Tryz.isAgg123
  z25 := Tryz.sizeOf123
  v25 := Tryz.zeroValue123
  t39 := Tryz.underlying107
  a39 := Tryz.isAgg107
  z39 := Tryz.sizeOf107
  v39 := Tryz.zeroValue107
  t45 := Tryz.underlying144
  a45 := Tryz.isAgg144
  z45 := Tryz.sizeOf144
  v45 := Tryz.zeroValue144
  t46 := Tryz.underlying145
  a46 := Tryz.isAgg145
  z46 := Tryz.sizeOf145
  v46 := Tryz.zeroValue145
  t50 := Tryz.underlying149
  a50 := Tryz.isAgg149
  z50 := Tryz.sizeOf149
  v50 := Tryz.zeroValue149
  t53 := Tryz.underlying152
  a53 := Tryz.isAgg152
  z53 := Tryz.sizeOf152
  v53 := Tryz.zeroValue152
  t55 := Tryz.underlying54
  a55 := Tryz.isAgg54
  z55 := Tryz.sizeOf54
  v55 := Tryz.zeroValue54
  t66 := Tryz.underlying155
  a66 := Tryz.isAgg155
  z66 := Tryz.sizeOf155
  v66 := Tryz.zeroValue155
  t70 := Tryz.underlying159
  a70 := Tryz.isAgg159
  z70 := Tryz.sizeOf159
  v70 := Tryz.zeroValue159
  t76 := Tryz.underlying161
  a76 := Tryz.isAgg161
  z76 := Tryz.sizeOf161
  v76 := Tryz.zeroValue161
  t77 := Tryz.underlying65
  a77 := Tryz.isAgg65
  z77 := Tryz.sizeOf65
  v77 := Tryz.zeroValue65 }
instance : Inhabited H32 := ⟨⟨List.replicate 32 0, rfl⟩⟩
theorem isAgg_hash : ∀ w, (isAgg 45).run Tryz.prog w = .ok true w := fun w => by kernel_rfl
theorem sizeOf_hash : ∀ w, (Go.sizeOf 45).run Tryz.prog w = .ok 32 w := fun w => by kernel_rfl
def hsVs (h : H32) : List Value := h.1.map bV
theorem hsVs_len (h : H32) : (hsVs h).length = 32 := by simp [hsVs, h.2]
theorem hsVs_one (h : H32) : ∀ v ∈ hsVs h, v.oneCell' = true := fun v hv => by
  obtain ⟨b, _, rfl⟩ := List.mem_map.1 hv
  rfl
theorem encH_hv (h : H32) : encH h = .agg ((hsVs h).map D.v) := by
  simp only [encH, hsVs, List.map_map]
  rfl
section
set_option maxRecDepth 200000
set_option maxHeartbeats 4000000
theorem sortCmp_d (a b : H32) : DPure Tryz.prog 83 [encH a, encH b] (.v (.int .i64 (cmpH a b))) := by
  refine dpure_of_dwp mixed Tryz.func83 rfl (fun _ _ => by kernel_rfl) (rs := [.tmp 4]) rfl (by kernel_rfl) trivial (fun S hS => ?_)
  (simp (disch := first | decide | omega | (simp only [nx]; first | done | omega)) only [go_sem]; (repeat with_reducible refine aI ?_))
  refine ddraw_mk 4 (by kernel_rfl) ?_
  (simp (disch := first | decide | omega | (simp only [nx]; first | done | omega)) only [go_sem]; (repeat with_reducible refine aI ?_))
  refine dqgo_at (cmpH_st a b (winB_hash (t := 45) a ?_) (winB_hash (t := 45) b ?_)) ?_
  · (first | (simp (disch := first | decide | omega | (simp only [nx]; first | done | omega)) only [go_sem]; first | done | rfl) | rfl)
  · (first | (simp (disch := first | decide | omega | (simp only [nx]; first | done | omega)) only [go_sem]; first | done | rfl) | rfl)
  (simp (disch := first | decide | omega | (simp only [nx]; first | done | omega)) only [go_sem]; (repeat with_reducible refine aI ?_))
  refine ⟨?_, (by (repeat' first | assumption | exact St.Sub.refl _ | exact RowOk.sub (by assumption) (by assumption) | refine St.Sub.trans ?_ (RowOk.sub (by assumption) (by assumption)) | refine St.Sub.add ?_ ?_ _ | refine St.Sub.set ?_ ?_ ?_ _ | refine St.Sub.keep ?_ ?_ | refine St.WF.leave ?_ _ | refine St.WF.add ?_ _ | refine St.WF.set ?_ ?_ _ | refine St.WF.grow ?_ _ _ _ | refine St.WF.keep ?_ ?_ | (first | omega | (simp only [RowOk.lo, nx]; first | done | omega))))⟩
  rfl
variable {S : St}
theorem sort0H_d (k c : Nat) : DPure Tryz.prog 82 [.win k 0 0 c, .fn (.func 83) [] []] (.tup []) := by
  refine dpure_of_dwp mixed Tryz.func82 rfl (fun _ _ => by kernel_rfl) (rs := []) rfl (by kernel_rfl) trivial (fun S hS => ?_)
  have hcv : pureRun Tryz.prog (convert 3 107 (.int .i64 0)) = some (.int .u64 0) := by kernel_rfl
  (simp (disch := first | decide | omega | (simp only [nx]; first | done | omega)) only [go_sem, hcv]; (repeat with_reducible refine aI ?_))
  refine DCalls.of_pure (bitsLen_d sortHsL (by intro _ _; kernel_rfl) 0 (by omega)) ?_
  (simp (disch := first | decide | omega | (simp only [nx]; first | done | omega)) only [go_sem]; (repeat with_reducible refine aI ?_))
  refine dcalls_inline mixed Tryz.func91 rfl (fun _ _ => by kernel_rfl) (rs := []) rfl (by kernel_rfl) (fun hS => ?_)
  (simp (disch := first | decide | omega | (simp only [nx]; first | done | omega)) only [go_sem]; (repeat with_reducible refine aI ?_))
  refine dloop_fuel 1 (by (repeat' first | assumption | refine St.WF.leave ?_ _ | refine St.WF.add ?_ _ | refine St.WF.set ?_ ?_ _ | refine St.WF.grow ?_ _ _ _ | refine St.WF.keep ?_ ?_ | (first | omega | (simp only [RowOk.lo, nx]; first | done | omega)))) (by kernel_rfl) ?_
  rw [loopN_eq]
  have b1 : decide (IntKind.i64.wrap (0 - 0) ≤ 12) = true := by decide
  have b2 : decide ((1 : Int) < 0) = false := by decide
  (simp (disch := first | decide | omega | (simp only [nx]; first | done | omega)) only [go_sem, b1]; (repeat with_reducible refine aI ?_))
  refine dcalls_inline mixed Tryz.func94 rfl (fun _ _ => by kernel_rfl) (rs := []) rfl (by kernel_rfl) (fun hS => ?_)
  have b3 : IntKind.i64.wrap (0 + 1) = 1 := by decide
  (simp (disch := first | decide | omega | (simp only [nx]; first | done | omega)) only [go_sem, b3]; (repeat with_reducible refine aI ?_))
  refine dloop_fuel 1 (by (repeat' first | assumption | refine St.WF.leave ?_ _ | refine St.WF.add ?_ _ | refine St.WF.set ?_ ?_ _ | refine St.WF.grow ?_ _ _ _ | refine St.WF.keep ?_ ?_ | (first | omega | (simp only [RowOk.lo, nx]; first | done | omega)))) (by kernel_rfl) ?_
  rw [loopN_eq]
  (simp (disch := first | decide | omega | (simp only [nx]; first | done | omega)) only [go_sem, b2]; (repeat with_reducible refine aI ?_))
  refine ⟨?_, (by (repeat' first | assumption | exact St.Sub.refl _ | exact RowOk.sub (by assumption) (by assumption) | refine St.Sub.trans ?_ (RowOk.sub (by assumption) (by assumption)) | refine St.Sub.add ?_ ?_ _ | refine St.Sub.set ?_ ?_ ?_ _ | refine St.Sub.keep ?_ ?_ | refine St.WF.leave ?_ _ | refine St.WF.add ?_ _ | refine St.WF.set ?_ ?_ _ | refine St.WF.grow ?_ _ _ _ | refine St.WF.keep ?_ ?_ | (first | omega | (simp only [RowOk.lo, nx]; first | done | omega))))⟩
  rfl
theorem sortHs_w {k c : Nat} {zs : List D} (l : List H32) (ho : OwnH S k c zs l) (hn : l.length ≤ 1000000) :
    DCalls Tryz.prog 82 [.win k 0 l.length c, .fn (.func 83) [] []] S (fun d T => d = .tup [] ∧ ∃ l' : List H32, l'.Perm l ∧ l'.Pairwise (fun a b => ltOf cmpH b a = false) ∧ T = S.set k (ownOb 45 (l'.map encH) zs c)) := by
  rcases Nat.eq_zero_or_pos c with h0 | h0
  · subst h0
    have hl : l = [] := List.eq_nil_of_length_eq_zero (by have := ho.le; omega)
    subst hl
    refine (sort0H_d k 0 S).mono ?_
    rintro d T ⟨rfl, rfl⟩
    exact ⟨rfl, [], .nil, .nil, (ob_self ho.ob).symm⟩
  · have hk := ho.ob
    rw [ownOb_box h0] at hk
    have key := dsort (S := S) (k := k) (c := c) (A := []) (B := zs) (t := 45) (l := l) rfl sortHsL isAgg_hash sizeOf_hash (by intro _ _; kernel_rfl) hsVs_len hsVs_one encH_hv swo_cmpH (g := 83) (by intro _ _; kernel_rfl) sortCmp_d hk hn
    refine DCalls.mono key ?_
    rintro d T ⟨rfl, l', h1, h2, rfl⟩
    exact ⟨rfl, l', h1, h2, by rw [ownOb_box h0]; rfl⟩
theorem hsort_w {S : St} (own : Own) (l : List H32) (hn : l.length ≤ 1000000) :
    DCalls Tryz.prog 56 [.sl own (l.map encH)] S fun d T => ∃ k c zs, d = .win k 0 (sortH l).length c ∧ S.next ≤ k ∧ OwnH T k c zs (sortH l) ∧ S.Sub T := by
  refine dcalls_inline mixed Tryz.func56 rfl (fun _ _ => by kernel_rfl) (rs := [.tmp 2]) rfl (by kernel_rfl) (fun hS => ?_)
  (simp (disch := first | decide | omega | (simp only [nx]; first | done | omega)) only [go_sem]; (repeat with_reducible refine aI ?_))
  refine dapp_nil elHs (dappend_fresh elHs (by rw [elHs]; rfl) zeHs zoHs (es2 := l.map encH) (srcOk_sl (by rw [szHs]; exact wHs l)) rfl (by rw [List.length_map]; omega) (by rw [byHs, List.length_map]; omega) fun c zs h1 h2 => ?_)
  rw [szHs] at h2
  (simp (disch := first | decide | omega | (simp only [nx]; first | done | omega)) only [go_sem]; (repeat with_reducible refine aI ?_))
  refine (sortHs_w (S := S.add (ownOb 45 (l.map encH) zs c)) l ⟨by (first | (simp (disch := first | decide | omega | (simp only [nx]; first | done | omega)) only [go_sem]; first | done | rfl) | rfl), h2, by show S.next < S.next + 1; omega⟩ hn).mono ?_
  rintro d T ⟨rfl, l', hp, hs, rfl⟩
  (simp (disch := first | decide | omega | (simp only [nx]; first | done | omega)) only [go_sem]; (repeat with_reducible refine aI ?_))
  have hl := hp.length_eq
  have hpl := packH_sort hp hs
  have key := compactH_w (S := (S.add (ownOb 45 (l.map encH) zs c)).set S.next (ownOb 45 (l'.map encH) zs c)) (k := S.next) (c := c) (zs := zs) l' ⟨by (first | (simp (disch := first | decide | omega | (simp only [nx]; first | done | omega)) only [go_sem]; first | done | rfl) | rfl), by simp only [List.length_append, flatHs_len] at h2 ⊢; omega, by show S.next < S.next + 1; omega⟩ (by omega)
  rw [hl, hpl] at key
  refine key.mono ?_
  rintro d T ⟨zs', rfl, ho, hnx, hf⟩
  (simp (disch := first | decide | omega | (simp only [nx]; first | done | omega)) only [go_sem]; (repeat with_reducible refine aI ?_))
  refine ⟨S.next, c, zs', rfl, Nat.le_refl _, ho, by have : S.next + 1 ≤ T.next := hnx; omega, fun j o h => ?_⟩
  have := hS.lt h
  have hj : j ≠ S.next := by omega
  refine hf j o hj ?_
  (first | (simp (disch := first | decide | omega | (simp only [nx]; first | done | omega)) only [go_sem, hj, h]; first | done | rfl) | rfl)
theorem hsort_d (own : Own) (l : List H32) (hn : l.length ≤ 1000000) : DPure Tryz.prog 56 [.sl own (l.map encH)] (.sl .no ((sortH l).map encH)) := dpure_ownH fun _ _ => hsort_w own l hn
end
end Go.Proofs.YtonncfminojejaaGreatDoor

namespace Go.Proofs.YtonncfminojejaaGreatDoor
open Go.RowKit
def ixOf {α : Type} (p : α → Bool) (l : List α) : Int := if l.any p then ((l.findIdx p : Nat) : Int) else -1
theorem ixOf_at {α : Type} {p : α → Bool} {l : List α} {i : Nat} (h : i < l.length) (hp : p l[i] = true) (hs : ∀ j (h : j < l.length), j < i → p l[j] = false) : ixOf p l = (i : Int) := by
  have h1 : l.any p = true := List.any_eq_true.2 ⟨l[i], List.getElem_mem _, hp⟩
  have h2 : l.findIdx p = i := by
    rw [List.findIdx_eq h]
    exact ⟨hp, fun j hj => hs j (by omega) hj⟩
  rw [ixOf, if_pos h1, h2]
theorem ixOf_none {α : Type} {p : α → Bool} {l : List α} (hs : ∀ j (h : j < l.length), p l[j] = false) : ixOf p l = -1 := by
  have h1 : l.any p = false := List.any_eq_false.2 fun x hx => by
    obtain ⟨i, hi, rfl⟩ := List.getElem_of_mem hx
    rw [hs i hi]; simp
  rw [ixOf, if_neg (by rw [h1]; simp)]
theorem ixOf_any {α : Type} (p : α → Bool) (l : List α) : decide (ixOf p l ≥ 0) = l.any p := by
  unfold ixOf
  cases l.any p <;> simp
section
set_option maxRecDepth 200000
set_option maxHeartbeats 4000000
end
end Go.Proofs.YtonncfminojejaaGreatDoor

namespace Go.Proofs.YtonncfminojejaaGreatDoor
open Go.RowKit Go.Extern.Stop Go.Stop Go.Extern
/-! The value that a tree without memory stands for. -/
mutual
def D.val : D → Option Value
  | .v x => some x
  | .ifc t d => (D.val d).map (Value.iface t ·)
  | .agg cs => (valL cs).bind fun vs => bif vs.all (·.oneCell') then some (.agg vs.toArray) else none
  | _ => none
def valL : List D → Option (List Value)
  | [] => some []
  | d :: l => (D.val d).bind fun x => (valL l).map (x :: ·)
end
section
variable {P : Program} {w : World} {η : Names} {X : Nat → Nat → Prop}
mutual
theorem rep_val_iff : ∀ {d : D} {x : Value}, D.val d = some x → ∀ {y : Value}, Rep P w η X d y ↔ y = x
  | .v x, _, h, y => by simp only [D.val, Option.some.injEq] at h; subst h; simp only [Rep]
  | .ifc t d, _, h, y => by
    simp only [D.val, Option.map_eq_some_iff] at h
    obtain ⟨z, h1, rfl⟩ := h
    simp only [Rep]
    constructor
    · rintro ⟨u, rfl, hu⟩
      rw [(rep_val_iff h1).1 hu]
    · rintro rfl
      exact ⟨z, rfl, (rep_val_iff h1).2 rfl⟩
  | .agg cs, _, h, y => by
    simp only [D.val, Option.bind_eq_some_iff] at h
    obtain ⟨vs, h1, h2⟩ := h
    cases hb : vs.all (·.oneCell') with
    | false => rw [hb] at h2; cases h2
    | true =>
      rw [hb] at h2
      simp only [cond_true, Option.some.injEq] at h2
      subst h2
      simp only [Rep]
      constructor
      · rintro ⟨us, rfl, hu, _⟩
        rw [(rep_valL_iff h1).1 hu]
      · rintro rfl
        exact ⟨vs, rfl, (rep_valL_iff h1).2 rfl, fun u hu => List.all_eq_true.1 hb u hu⟩
  | .tup _, _, h, _ => by simp [D.val] at h
  | .fn _ _ _, _, h, _ => by simp [D.val] at h
  | .loc _ _, _, h, _ => by simp [D.val] at h
  | .rd _ _, _, h, _ => by simp [D.val] at h
  | .sl _ _, _, h, _ => by simp [D.val] at h
  | .win _ _ _ _, _, h, _ => by simp [D.val] at h
theorem rep_valL_iff : ∀ {l : List D} {vs : List Value}, valL l = some vs → ∀ {us : List Value}, RepL P w η X l us ↔ us = vs
  | [], _, h, us => by simp only [valL, Option.some.injEq] at h; subst h; simp only [RepL]
  | d :: l, _, h, us => by
    simp only [valL, Option.bind_eq_some_iff, Option.map_eq_some_iff] at h
    obtain ⟨x, h1, xs, h2, rfl⟩ := h
    simp only [RepL]
    constructor
    · rintro ⟨y, ys, rfl, hy, hys⟩
      rw [(rep_val_iff h1).1 hy, (rep_valL_iff h2).1 hys]
    · rintro rfl
      exact ⟨x, xs, rfl, (rep_val_iff h1).2 rfl, (rep_valL_iff h2).2 rfl⟩
end
end
section
variable {P : Program} {S : St} {K : D → St → Prop}
theorem dext {g : FuncId} {fn : Func} {e : Array Value → Sem Value} (hf : P.funcs[g]? = some fn) (hname : (fn.name == "runtime.NumGoroutine") = false) (hb : fn.body.isNone = true) (hn : Extern.findNext fn = none) (hx : Extern.find fn = some e) {args : List D}
    (h : ∀ base η w vs, Mem P base S η w → RepL P w η (Fix P S η) args vs → ∃ d S' η' v w', (e vs.toArray).run P w = .ok v w' ∧ K d S' ∧ Rep P w' η' (Fix P S' η') d v ∧ Goes P base S η w S' η' w') : DCalls P g args S K := fun base η w vs hM hr => by
  obtain ⟨d, S', η', v, w', h1, h2, h3, h4⟩ := h base η w vs hM hr
  refine .inr ⟨d, S', η', v, w', ?_, h2, h3, h4⟩
  rw [run_callFunc_extern hf hname hb hn hx, h1]
  rfl
theorem dext_pure {g : FuncId} {fn : Func} {e : Array Value → Sem Value} (hf : P.funcs[g]? = some fn) (hname : (fn.name == "runtime.NumGoroutine") = false) (hb : fn.body.isNone = true) (hn : Extern.findNext fn = none) (hx : Extern.find fn = some e) {args : List D} {us : List Value} {r : Value} {d : D}
    (hv : valL args = some us) (h : ∀ w, (e us.toArray).run P w = .ok r w) (hd : D.val d = some r) (hk : K d S) : DCalls P g args S K :=
  dext hf hname hb hn hx fun base η w vs hM hr => by
    rw [(rep_valL_iff hv).1 hr]
    exact ⟨d, S, η, r, w, h w, hk, (rep_val_iff hd).2 rfl, Goes.refl hM⟩
theorem dmeth_pure {t : TypeId} {d d' : D} {m : String} {g : FuncId} {x r : Value} (hd : D.val d = some x) (hd' : D.val d' = some r) (h : ∀ w, (method (P.types.size + Made.depth) t x m).run P w = .ok (g, r) w) : DMeth P t d m g d' := fun w η X v hr => by
  rw [(rep_val_iff hd).1 hr]
  exact ⟨r, h w, (rep_val_iff hd').2 rfl⟩
end
abbrev tyV (t : TypeId) : Value := .pointer (some ⟨1, t, none⟩)
abbrev tyD (t : TypeId) : D := .agg [.v (tyV t)]
abbrev rtD (t : TypeId) : D := .ifc 129 (tyD t)
theorem rlm (z : Sem Value) (f : TypeId → Addr → Nat → Nat → Sem Value) (v : Value) :
    ReflectliteValue.method z f #[v] = (do match ← ReflectliteValue.parts v with | none => z | some (t, a, fl) => f t a fl (fl % 32)) := rfl
theorem rls (v x : Value) : ReflectliteValue.set #[v, x] = (do
    let (some (dst, a, fl), some (src, b, _)) := (← ReflectliteValue.parts v, ← ReflectliteValue.parts x)
      | unsupported (.noEntry "extern/(internal/reflectlite.Value).Set.zeroValue")
    if fl / ReflectliteValue.flagAddr % 2 == 0 then unsupported (.noEntry "extern/(internal/reflectlite.Value).Set.unaddressable")
    let val ← loadVar src b
    if ← Rtype.directlyAssignable dst src then storeVar dst a val
    else if ← Rtype.implements dst src then
      if (← Rtype.kind src) == 20 then
        match val with
        | .nilIface => unsupported (.noEntry "extern/reflectlite: a nil value of one interface type handed on as a value of another")
        | _ => storeVar dst a val
      else storeVar dst a (.iface src val)
    else panicString ("reflectlite.Set: value of type " ++ (← Rtype.spelt src) ++ " is not assignable to type " ++ (← Rtype.spelt dst))
    pure (.tuple #[])) := rfl

section
variable {S : St} {K : D → St → Prop}
theorem unpackPEr (a : Addr) (w : World) : (ReflectliteValue.unpack (.iface 84 (.pointer (some a)))).run Tryz.prog w = .ok (.agg #[tyV 84, .pointer (some ⟨w.heap.size, 0, none⟩), .int .u64 150]) (w.alloc (.cells #[.pointer (some a)] 84)) := by kernel_rfl
theorem rlValueOfPEr {k off : Nat} (h : K (.agg [.v (tyV 84), .loc S.next 0, .v (.int .u64 150)]) (S.add (.box 84 [.loc k off]))) : DCalls Tryz.prog 77 [.ifc 84 (.loc k off)] S K :=
  dext (e := fun args => ReflectliteValue.unpack (args.getD 0 (.tuple #[]))) Tryz.func77 (by kernel_rfl) (by kernel_rfl) (by kernel_rfl) (by kernel_rfl) fun base η w vs hM hr => by
    simp only [RepL, Rep] at hr
    obtain ⟨_, _, rfl, ⟨_, rfl, b, hb, rfl⟩, rfl⟩ := hr
    have G := goes_name hM (.box 84 [.loc k off]) #[.pointer (some ⟨b, off, none⟩)] 84 (.inl ⟨_, [.pointer (some ⟨b, off, none⟩)], rfl, rfl, by simp only [RepL, Rep]; exact ⟨_, _, rfl, ⟨b, hb, rfl⟩, rfl⟩, fun x hx => by rw [List.mem_singleton] at hx; subst hx; rfl⟩)
    refine ⟨_, _, _, _, _, unpackPEr _ w, h, ?_, G⟩
    simp only [Rep, RepL]
    exact ⟨[_, _, _], rfl, ⟨_, _, rfl, rfl, _, _, rfl, ⟨w.heap.size, by simp only [Names.add, ↓reduceIte], rfl⟩, _, _, rfl, rfl, rfl⟩, fun x hx => by simp only [List.mem_cons, List.not_mem_nil, or_false] at hx; rcases hx with rfl | rfl | rfl <;> rfl⟩
theorem typePEr (a : Addr) (w : World) : (ReflectliteValue.methodAny (ReflectliteValue.valueError "reflectlite.Value.Type" 0) (fun t _ _ _ => ReflectliteType.toType t) #[.agg #[tyV 84, .pointer (some a), .int .u64 150]]).run Tryz.prog w = .ok (.iface 129 (.agg #[tyV 84])) w := by kernel_rfl
theorem rlTypePEr {k off : Nat} (h : K (rtD 84) S) : DCalls Tryz.prog 78 [.agg [.v (tyV 84), .loc k off, .v (.int .u64 150)]] S K :=
  dext (e := ReflectliteValue.methodAny (ReflectliteValue.valueError "reflectlite.Value.Type" 0) (fun t _ _ _ => ReflectliteType.toType t)) Tryz.func78 (by kernel_rfl) (by kernel_rfl) (by kernel_rfl) (by kernel_rfl) fun base η w vs hM hr => by
    simp only [RepL, Rep] at hr
    obtain ⟨_, _, rfl, ⟨_, rfl, ⟨_, _, rfl, rfl, _, _, rfl, ⟨b, hb, rfl⟩, _, _, rfl, rfl, rfl⟩, _⟩, rfl⟩ := hr
    exact ⟨_, S, η, _, w, typePEr _ w, h, (rep_val_iff (d := rtD 84) rfl).2 rfl, Goes.refl hM⟩
theorem partsPEr (a : Addr) (w : World) : (ReflectliteValue.parts (.agg #[tyV 84, .pointer (some a), .int .u64 150])).run Tryz.prog w = .ok (some (84, a, 150)) w := by kernel_rfl
theorem rlIsNilPEr {b k off : Nat} (hb : S.ob b = some (.box 84 [.loc k off])) (h : K (.v (.bool false)) S) : DCalls Tryz.prog 79 [.agg [.v (tyV 84), .loc b 0, .v (.int .u64 150)]] S K :=
  dext (e := ReflectliteValue.method (ReflectliteValue.valueError "reflectlite.Value.IsNil" 0) ReflectliteValue.isNil) Tryz.func79 (by kernel_rfl) (by kernel_rfl) (by kernel_rfl) (by kernel_rfl) fun base η w vs hM hr => by
    simp only [RepL, Rep] at hr
    obtain ⟨_, _, rfl, ⟨_, rfl, ⟨_, _, rfl, rfl, _, _, rfl, ⟨q, hq, rfl⟩, _, _, rfl, rfl, rfl⟩, _⟩, rfl⟩ := hr
    obtain ⟨us, g1, g2, g3⟩ := hM.box b _ _ q hb hq
    simp only [RepL, Rep] at g2
    obtain ⟨_, _, rfl, ⟨p, hp, rfl⟩, rfl⟩ := g2
    have ha : w.cell? ⟨q, 0, none⟩ = some (.pointer (some ⟨p, off, none⟩)) := by simp [World.cell?, g1]
    refine ⟨_, S, η, .bool false, w, ?_, h, by simp only [Rep], Goes.refl hM⟩
    rw [rlm]
    simp only [Sem.run_bind, partsPEr, Result.andThen]
    simp [ReflectliteValue.isNil, loadVar, isAgg, underlying, Tryz.underlying84, ha, Result.andThen]
theorem elemOfPEr (w : World) : (Rtype.elem? 84).run Tryz.prog w = .ok (some 56) w := by kernel_rfl
theorem mkPEr (p : Addr) (w : World) : (ReflectliteValue.mk 56 p ReflectliteValue.flagAddr).run Tryz.prog w = .ok (.agg #[tyV 56, .pointer (some p), .int .u64 386]) w := by kernel_rfl
theorem rlElemPEr {b k off : Nat} (hb : S.ob b = some (.box 84 [.loc k off])) (h : K (.agg [.v (tyV 56), .loc k off, .v (.int .u64 386)]) S) : DCalls Tryz.prog 89 [.agg [.v (tyV 84), .loc b 0, .v (.int .u64 150)]] S K :=
  dext (e := ReflectliteValue.method (ReflectliteValue.valueError "reflectlite.Value.Elem" 0) ReflectliteValue.elem) Tryz.func89 (by kernel_rfl) (by kernel_rfl) (by kernel_rfl) (by kernel_rfl) fun base η w vs hM hr => by
    simp only [RepL, Rep] at hr
    obtain ⟨_, _, rfl, ⟨_, rfl, ⟨_, _, rfl, rfl, _, _, rfl, ⟨q, hq, rfl⟩, _, _, rfl, rfl, rfl⟩, _⟩, rfl⟩ := hr
    obtain ⟨us, g1, g2, g3⟩ := hM.box b _ _ q hb hq
    simp only [RepL, Rep] at g2
    obtain ⟨_, _, rfl, ⟨p, hp, rfl⟩, rfl⟩ := g2
    have ha : w.cell? ⟨q, 0, none⟩ = some (.pointer (some ⟨p, off, none⟩)) := by simp [World.cell?, g1]
    refine ⟨_, S, η, .agg #[tyV 56, .pointer (some ⟨p, off, none⟩), .int .u64 386], w, ?_, h, ?_, Goes.refl hM⟩
    · rw [rlm]
      simp only [Sem.run_bind, partsPEr, Result.andThen]
      simp [ReflectliteValue.elem, loadVar, isAgg, underlying, Tryz.underlying84, ha, Result.andThen, elemOfPEr, mkPEr]
    · simp only [Rep, RepL]
      exact ⟨[_, _, _], rfl, ⟨_, _, rfl, rfl, _, _, rfl, ⟨p, hp, rfl⟩, _, _, rfl, rfl, rfl⟩, fun x hx => by simp only [List.mem_cons, List.not_mem_nil, or_false] at hx; rcases hx with rfl | rfl | rfl <;> rfl⟩
theorem methKindPEr : DMeth Tryz.prog 129 (tyD 84) "Kind" 125 (.v (tyV 84)) := dmeth_pure rfl rfl fun w => by kernel_rfl
theorem methKindEr : DMeth Tryz.prog 129 (tyD 56) "Kind" 125 (.v (tyV 56)) := dmeth_pure rfl rfl fun w => by kernel_rfl
theorem rlKindPEr (h : K (.v (.int .u8 22)) S) : DCalls Tryz.prog 125 [.v (tyV 84)] S K :=
  dext_pure (e := ReflectliteType.abiMethod fun t => do pure (.int .u8 (← Rtype.kind t))) Tryz.func125 (by kernel_rfl) (by kernel_rfl) (by kernel_rfl) (by kernel_rfl) (r := .int .u8 22) rfl (fun w => by kernel_rfl) rfl h
theorem rlKindEr (h : K (.v (.int .u8 2)) S) : DCalls Tryz.prog 125 [.v (tyV 56)] S K :=
  dext_pure (e := ReflectliteType.abiMethod fun t => do pure (.int .u8 (← Rtype.kind t))) Tryz.func125 (by kernel_rfl) (by kernel_rfl) (by kernel_rfl) (by kernel_rfl) (r := .int .u8 2) rfl (fun w => by kernel_rfl) rfl h
theorem methElemPEr : DMeth Tryz.prog 129 (tyD 84) "Elem" 138 (tyD 84) := dmeth_pure rfl rfl fun w => by kernel_rfl
theorem rlTElemPEr (h : K (rtD 56) S) : DCalls Tryz.prog 138 [tyD 84] S K :=
  dext_pure (e := ReflectliteType.method ReflectliteType.elem) Tryz.func138 (by kernel_rfl) (by kernel_rfl) (by kernel_rfl) (by kernel_rfl) (r := .iface 129 (.agg #[tyV 56])) rfl (fun w => by kernel_rfl) rfl h
theorem methImplEr : DMeth Tryz.prog 129 (tyD 56) "Implements" 139 (tyD 56) := dmeth_pure rfl rfl fun w => by kernel_rfl
theorem rlImplEr (h : K (.v (.bool true)) S) : DCalls Tryz.prog 139 [tyD 56, rtD 30] S K :=
  dext_pure (e := ReflectliteType.relation "Implements" ReflectliteType.implements_) Tryz.func139 (by kernel_rfl) (by kernel_rfl) (by kernel_rfl) (by kernel_rfl) (r := .bool true) rfl (fun w => by kernel_rfl) rfl h
theorem methAsgEr : DMeth Tryz.prog 129 (tyD 56) "AssignableTo" 136 (tyD 56) := dmeth_pure rfl rfl fun w => by kernel_rfl
theorem rlAsgEr (h : K (.v (.bool true)) S) : DCalls Tryz.prog 136 [tyD 56, rtD 56] S K :=
  dext_pure (e := ReflectliteType.relation "AssignableTo" ReflectliteType.assignableTo) Tryz.func136 (by kernel_rfl) (by kernel_rfl) (by kernel_rfl) (by kernel_rfl) (r := .bool true) rfl (fun w => by kernel_rfl) rfl h
theorem typeOfEr (x : Value) (w : World) : (ReflectliteType.typeOf #[.iface 56 x]).run Tryz.prog w = .ok (.iface 129 (.agg #[tyV 56])) w := by kernel_rfl
theorem rlTypeOfEr {d : D} (h : K (rtD 56) S) : DCalls Tryz.prog 88 [.ifc 56 d] S K :=
  dext (e := ReflectliteType.typeOf) Tryz.func88 (by kernel_rfl) (by kernel_rfl) (by kernel_rfl) (by kernel_rfl) fun base η w vs hM hr => by
    simp only [RepL, Rep] at hr
    obtain ⟨_, _, rfl, ⟨x, rfl, _⟩, rfl⟩ := hr
    exact ⟨_, S, η, _, w, typeOfEr x w, h, (rep_val_iff (d := rtD 56) rfl).2 rfl, Goes.refl hM⟩
end


section
variable {S : St} {K : D → St → Prop}
theorem unpackPAt (a : Addr) (w : World) : (ReflectliteValue.unpack (.iface 126 (.pointer (some a)))).run Tryz.prog w = .ok (.agg #[tyV 126, .pointer (some ⟨w.heap.size, 0, none⟩), .int .u64 150]) (w.alloc (.cells #[.pointer (some a)] 126)) := by kernel_rfl
theorem rlValueOfPAt {k off : Nat} (h : K (.agg [.v (tyV 126), .loc S.next 0, .v (.int .u64 150)]) (S.add (.box 126 [.loc k off]))) : DCalls Tryz.prog 77 [.ifc 126 (.loc k off)] S K :=
  dext (e := fun args => ReflectliteValue.unpack (args.getD 0 (.tuple #[]))) Tryz.func77 (by kernel_rfl) (by kernel_rfl) (by kernel_rfl) (by kernel_rfl) fun base η w vs hM hr => by
    simp only [RepL, Rep] at hr
    obtain ⟨_, _, rfl, ⟨_, rfl, b, hb, rfl⟩, rfl⟩ := hr
    have G := goes_name hM (.box 126 [.loc k off]) #[.pointer (some ⟨b, off, none⟩)] 126 (.inl ⟨_, [.pointer (some ⟨b, off, none⟩)], rfl, rfl, by simp only [RepL, Rep]; exact ⟨_, _, rfl, ⟨b, hb, rfl⟩, rfl⟩, fun x hx => by rw [List.mem_singleton] at hx; subst hx; rfl⟩)
    refine ⟨_, _, _, _, _, unpackPAt _ w, h, ?_, G⟩
    simp only [Rep, RepL]
    exact ⟨[_, _, _], rfl, ⟨_, _, rfl, rfl, _, _, rfl, ⟨w.heap.size, by simp only [Names.add, ↓reduceIte], rfl⟩, _, _, rfl, rfl, rfl⟩, fun x hx => by simp only [List.mem_cons, List.not_mem_nil, or_false] at hx; rcases hx with rfl | rfl | rfl <;> rfl⟩
theorem typePAt (a : Addr) (w : World) : (ReflectliteValue.methodAny (ReflectliteValue.valueError "reflectlite.Value.Type" 0) (fun t _ _ _ => ReflectliteType.toType t) #[.agg #[tyV 126, .pointer (some a), .int .u64 150]]).run Tryz.prog w = .ok (.iface 129 (.agg #[tyV 126])) w := by kernel_rfl
theorem rlTypePAt {k off : Nat} (h : K (rtD 126) S) : DCalls Tryz.prog 78 [.agg [.v (tyV 126), .loc k off, .v (.int .u64 150)]] S K :=
  dext (e := ReflectliteValue.methodAny (ReflectliteValue.valueError "reflectlite.Value.Type" 0) (fun t _ _ _ => ReflectliteType.toType t)) Tryz.func78 (by kernel_rfl) (by kernel_rfl) (by kernel_rfl) (by kernel_rfl) fun base η w vs hM hr => by
    simp only [RepL, Rep] at hr
    obtain ⟨_, _, rfl, ⟨_, rfl, ⟨_, _, rfl, rfl, _, _, rfl, ⟨b, hb, rfl⟩, _, _, rfl, rfl, rfl⟩, _⟩, rfl⟩ := hr
    exact ⟨_, S, η, _, w, typePAt _ w, h, (rep_val_iff (d := rtD 126) rfl).2 rfl, Goes.refl hM⟩
theorem partsPAt (a : Addr) (w : World) : (ReflectliteValue.parts (.agg #[tyV 126, .pointer (some a), .int .u64 150])).run Tryz.prog w = .ok (some (126, a, 150)) w := by kernel_rfl
theorem rlIsNilPAt {b k off : Nat} (hb : S.ob b = some (.box 126 [.loc k off])) (h : K (.v (.bool false)) S) : DCalls Tryz.prog 79 [.agg [.v (tyV 126), .loc b 0, .v (.int .u64 150)]] S K :=
  dext (e := ReflectliteValue.method (ReflectliteValue.valueError "reflectlite.Value.IsNil" 0) ReflectliteValue.isNil) Tryz.func79 (by kernel_rfl) (by kernel_rfl) (by kernel_rfl) (by kernel_rfl) fun base η w vs hM hr => by
    simp only [RepL, Rep] at hr
    obtain ⟨_, _, rfl, ⟨_, rfl, ⟨_, _, rfl, rfl, _, _, rfl, ⟨q, hq, rfl⟩, _, _, rfl, rfl, rfl⟩, _⟩, rfl⟩ := hr
    obtain ⟨us, g1, g2, g3⟩ := hM.box b _ _ q hb hq
    simp only [RepL, Rep] at g2
    obtain ⟨_, _, rfl, ⟨p, hp, rfl⟩, rfl⟩ := g2
    have ha : w.cell? ⟨q, 0, none⟩ = some (.pointer (some ⟨p, off, none⟩)) := by simp [World.cell?, g1]
    refine ⟨_, S, η, .bool false, w, ?_, h, by simp only [Rep], Goes.refl hM⟩
    rw [rlm]
    simp only [Sem.run_bind, partsPAt, Result.andThen]
    simp [ReflectliteValue.isNil, loadVar, isAgg, underlying, Tryz.underlying126, ha, Result.andThen]
theorem elemOfPAt (w : World) : (Rtype.elem? 126).run Tryz.prog w = .ok (some 101) w := by kernel_rfl
theorem mkPAt (p : Addr) (w : World) : (ReflectliteValue.mk 101 p ReflectliteValue.flagAddr).run Tryz.prog w = .ok (.agg #[tyV 101, .pointer (some p), .int .u64 406]) w := by kernel_rfl
theorem rlElemPAt {b k off : Nat} (hb : S.ob b = some (.box 126 [.loc k off])) (h : K (.agg [.v (tyV 101), .loc k off, .v (.int .u64 406)]) S) : DCalls Tryz.prog 89 [.agg [.v (tyV 126), .loc b 0, .v (.int .u64 150)]] S K :=
  dext (e := ReflectliteValue.method (ReflectliteValue.valueError "reflectlite.Value.Elem" 0) ReflectliteValue.elem) Tryz.func89 (by kernel_rfl) (by kernel_rfl) (by kernel_rfl) (by kernel_rfl) fun base η w vs hM hr => by
    simp only [RepL, Rep] at hr
    obtain ⟨_, _, rfl, ⟨_, rfl, ⟨_, _, rfl, rfl, _, _, rfl, ⟨q, hq, rfl⟩, _, _, rfl, rfl, rfl⟩, _⟩, rfl⟩ := hr
    obtain ⟨us, g1, g2, g3⟩ := hM.box b _ _ q hb hq
    simp only [RepL, Rep] at g2
    obtain ⟨_, _, rfl, ⟨p, hp, rfl⟩, rfl⟩ := g2
    have ha : w.cell? ⟨q, 0, none⟩ = some (.pointer (some ⟨p, off, none⟩)) := by simp [World.cell?, g1]
    refine ⟨_, S, η, .agg #[tyV 101, .pointer (some ⟨p, off, none⟩), .int .u64 406], w, ?_, h, ?_, Goes.refl hM⟩
    · rw [rlm]
      simp only [Sem.run_bind, partsPAt, Result.andThen]
      simp [ReflectliteValue.elem, loadVar, isAgg, underlying, Tryz.underlying126, ha, Result.andThen, elemOfPAt, mkPAt]
    · simp only [Rep, RepL]
      exact ⟨[_, _, _], rfl, ⟨_, _, rfl, rfl, _, _, rfl, ⟨p, hp, rfl⟩, _, _, rfl, rfl, rfl⟩, fun x hx => by simp only [List.mem_cons, List.not_mem_nil, or_false] at hx; rcases hx with rfl | rfl | rfl <;> rfl⟩
theorem methKindPAt : DMeth Tryz.prog 129 (tyD 126) "Kind" 125 (.v (tyV 126)) := dmeth_pure rfl rfl fun w => by kernel_rfl
theorem methKindAt : DMeth Tryz.prog 129 (tyD 101) "Kind" 125 (.v (tyV 101)) := dmeth_pure rfl rfl fun w => by kernel_rfl
theorem rlKindPAt (h : K (.v (.int .u8 22)) S) : DCalls Tryz.prog 125 [.v (tyV 126)] S K :=
  dext_pure (e := ReflectliteType.abiMethod fun t => do pure (.int .u8 (← Rtype.kind t))) Tryz.func125 (by kernel_rfl) (by kernel_rfl) (by kernel_rfl) (by kernel_rfl) (r := .int .u8 22) rfl (fun w => by kernel_rfl) rfl h
theorem rlKindAt (h : K (.v (.int .u8 22)) S) : DCalls Tryz.prog 125 [.v (tyV 101)] S K :=
  dext_pure (e := ReflectliteType.abiMethod fun t => do pure (.int .u8 (← Rtype.kind t))) Tryz.func125 (by kernel_rfl) (by kernel_rfl) (by kernel_rfl) (by kernel_rfl) (r := .int .u8 22) rfl (fun w => by kernel_rfl) rfl h
theorem methElemPAt : DMeth Tryz.prog 129 (tyD 126) "Elem" 138 (tyD 126) := dmeth_pure rfl rfl fun w => by kernel_rfl
theorem rlTElemPAt (h : K (rtD 101) S) : DCalls Tryz.prog 138 [tyD 126] S K :=
  dext_pure (e := ReflectliteType.method ReflectliteType.elem) Tryz.func138 (by kernel_rfl) (by kernel_rfl) (by kernel_rfl) (by kernel_rfl) (r := .iface 129 (.agg #[tyV 101])) rfl (fun w => by kernel_rfl) rfl h
theorem methImplAt : DMeth Tryz.prog 129 (tyD 101) "Implements" 139 (tyD 101) := dmeth_pure rfl rfl fun w => by kernel_rfl
theorem rlImplAt (h : K (.v (.bool true)) S) : DCalls Tryz.prog 139 [tyD 101, rtD 30] S K :=
  dext_pure (e := ReflectliteType.relation "Implements" ReflectliteType.implements_) Tryz.func139 (by kernel_rfl) (by kernel_rfl) (by kernel_rfl) (by kernel_rfl) (r := .bool true) rfl (fun w => by kernel_rfl) rfl h
theorem methAsgAt : DMeth Tryz.prog 129 (tyD 101) "AssignableTo" 136 (tyD 101) := dmeth_pure rfl rfl fun w => by kernel_rfl
theorem rlAsgAt (h : K (.v (.bool true)) S) : DCalls Tryz.prog 136 [tyD 101, rtD 101] S K :=
  dext_pure (e := ReflectliteType.relation "AssignableTo" ReflectliteType.assignableTo) Tryz.func136 (by kernel_rfl) (by kernel_rfl) (by kernel_rfl) (by kernel_rfl) (r := .bool true) rfl (fun w => by kernel_rfl) rfl h
theorem typeOfAt (x : Value) (w : World) : (ReflectliteType.typeOf #[.iface 101 x]).run Tryz.prog w = .ok (.iface 129 (.agg #[tyV 101])) w := by kernel_rfl
theorem rlTypeOfAt {d : D} (h : K (rtD 101) S) : DCalls Tryz.prog 88 [.ifc 101 d] S K :=
  dext (e := ReflectliteType.typeOf) Tryz.func88 (by kernel_rfl) (by kernel_rfl) (by kernel_rfl) (by kernel_rfl) fun base η w vs hM hr => by
    simp only [RepL, Rep] at hr
    obtain ⟨_, _, rfl, ⟨x, rfl, _⟩, rfl⟩ := hr
    exact ⟨_, S, η, _, w, typeOfAt x w, h, (rep_val_iff (d := rtD 101) rfl).2 rfl, Goes.refl hM⟩
end

end Go.Proofs.YtonncfminojejaaGreatDoor

namespace Go.Proofs.YtonncfminojejaaGreatDoor
open Go.RowKit Go.Extern.Stop Go.Stop Go.Extern
abbrev erD (n : Int) : D := .ifc 56 (.v (.int .i64 n))
abbrev atD (k : Nat) : D := .ifc 101 (.loc k 0)
inductive Chain (S : St) : List Int → Int → D → Prop
  | code (n : Int) : Chain S [] n (erD n)
  | at_ {p : Int} {ps : List Int} {n : Int} {k : Nat} {d : D} (hk : S.ob k = some (.box 104 [.v (.int .i64 p), d])) (h : Chain S ps n d) : Chain S (p :: ps) n (atD k)
theorem Chain.mono {S T : St} (h : ∀ k cs, S.ob k = some (.box 104 cs) → T.ob k = some (.box 104 cs)) {ps : List Int} {n : Int} {d : D} (hc : Chain S ps n d) : Chain T ps n d := by
  induction hc with
  | code n => exact .code n
  | at_ hk _ ih => exact .at_ (h _ _ hk) ih
section
variable {P : Program} {S : St} {K : D → St → Prop}
theorem dassert_if {dt xt t : TypeId} {u : D} (h : ∀ x w, (Instr.typeAssert (.iface dt x) xt t true).run P w = .ok (.tuple #[.iface dt x, .bool true]) w) (hk : K (.tup [.ifc dt u, .v (.bool true)]) S) : dassert P (.ifc dt u) xt t true S K := fun base η w vs hM hr => by
  simp only [RepL, Rep] at hr
  obtain ⟨_, _, rfl, ⟨x, rfl, hx⟩, rfl⟩ := hr
  refine ⟨_, S, η, _, w, h x w, hk, ?_, Goes.refl hM⟩
  simp only [Rep, RepL]
  exact ⟨_, rfl, _, _, rfl, ⟨x, rfl, hx⟩, _, _, rfl, rfl, rfl⟩
theorem dassert_no {dt xt t : TypeId} {u : D} {z : Value} (h : ∀ x w, (Instr.typeAssert (.iface dt x) xt t true).run P w = .ok (.tuple #[z, .bool false]) w) (hk : K (.tup [.v z, .v (.bool false)]) S) : dassert P (.ifc dt u) xt t true S K := fun base η w vs hM hr => by
  simp only [RepL, Rep] at hr
  obtain ⟨_, _, rfl, ⟨x, rfl, hx⟩, rfl⟩ := hr
  refine ⟨_, S, η, _, w, h x w, hk, ?_, Goes.refl hM⟩
  simp only [Rep, RepL]
  exact ⟨_, rfl, _, _, rfl, rfl, _, _, rfl, rfl, rfl⟩
theorem dmeth_same {t : TypeId} {d : D} {m : String} {g : FuncId} (h : ∀ x w, (method (P.types.size + Made.depth) t x m).run P w = .ok (g, x) w) : DMeth P t d m g d := fun w η X v hr => ⟨v, h v w, hr⟩
end
section
variable {S : St} {K : D → St → Prop} {u : D}
theorem asrErAs (hk : K (.tup [.v .nilIface, .v (.bool false)]) S) : dassert Tryz.prog (.ifc 56 u) 30 134 true S K := dassert_no (fun x w => run_typeAssert_lacksB Tryz.underlying134 (by kernel_rfl) (by kernel_rfl) x 30 w) hk
theorem asrErUn (hk : K (.tup [.v .nilIface, .v (.bool false)]) S) : dassert Tryz.prog (.ifc 56 u) 30 137 true S K := dassert_no (fun x w => run_typeAssert_lacksB Tryz.underlying137 (by kernel_rfl) (by kernel_rfl) x 30 w) hk
theorem asrErUs (hk : K (.tup [.v .nilIface, .v (.bool false)]) S) : dassert Tryz.prog (.ifc 56 u) 30 138 true S K := dassert_no (fun x w => run_typeAssert_lacksB Tryz.underlying138 (by kernel_rfl) (by kernel_rfl) x 30 w) hk
theorem asrAtAs (hk : K (.tup [.v .nilIface, .v (.bool false)]) S) : dassert Tryz.prog (.ifc 101 u) 30 134 true S K := dassert_no (fun x w => run_typeAssert_lacksB Tryz.underlying134 (by kernel_rfl) (by kernel_rfl) x 30 w) hk
theorem asrAtUn (hk : K (.tup [.ifc 101 u, .v (.bool true)]) S) : dassert Tryz.prog (.ifc 101 u) 30 137 true S K := dassert_if (fun x w => run_typeAssert_hasB Tryz.underlying137 (by kernel_rfl) x 30 w) hk
theorem methUn {d : D} : DMeth Tryz.prog 101 d "Unwrap" 131 d := dmeth_same fun x w => by kernel_rfl
theorem rlAsgErAt (h : K (.v (.bool false)) S) : DCalls Tryz.prog 136 [tyD 56, rtD 101] S K :=
  dext_pure (e := ReflectliteType.relation "AssignableTo" ReflectliteType.assignableTo) Tryz.func136 (by kernel_rfl) (by kernel_rfl) (by kernel_rfl) (by kernel_rfl) (r := .bool false) rfl (fun w => by kernel_rfl) rfl h
theorem rlAsgAtEr (h : K (.v (.bool false)) S) : DCalls Tryz.prog 136 [tyD 101, rtD 56] S K :=
  dext_pure (e := ReflectliteType.relation "AssignableTo" ReflectliteType.assignableTo) Tryz.func136 (by kernel_rfl) (by kernel_rfl) (by kernel_rfl) (by kernel_rfl) (r := .bool false) rfl (fun w => by kernel_rfl) rfl h
end
theorem unpackEr (n : Int) (w : World) : (ReflectliteValue.unpack (.iface 56 (.int .i64 n))).run Tryz.prog w = .ok (.agg #[tyV 56, .pointer (some ⟨w.heap.size, 0, none⟩), .int .u64 130]) (w.alloc (.cells #[.int .i64 n] 56)) := by kernel_rfl
theorem unpackAt (a : Addr) (w : World) : (ReflectliteValue.unpack (.iface 101 (.pointer (some a)))).run Tryz.prog w = .ok (.agg #[tyV 101, .pointer (some ⟨w.heap.size, 0, none⟩), .int .u64 150]) (w.alloc (.cells #[.pointer (some a)] 101)) := by kernel_rfl
section
variable {S : St} {K : D → St → Prop}
theorem rlValueOfEr {n : Int} (h : K (.agg [.v (tyV 56), .loc S.next 0, .v (.int .u64 130)]) (S.add (.box 56 [.v (.int .i64 n)]))) : DCalls Tryz.prog 77 [erD n] S K :=
  dext (e := fun args => ReflectliteValue.unpack (args.getD 0 (.tuple #[]))) Tryz.func77 (by kernel_rfl) (by kernel_rfl) (by kernel_rfl) (by kernel_rfl) fun base η w vs hM hr => by
    simp only [RepL, Rep] at hr
    obtain ⟨_, _, rfl, ⟨_, rfl, rfl⟩, rfl⟩ := hr
    have G := goes_name hM (.box 56 [.v (.int .i64 n)]) #[.int .i64 n] 56 (.inl ⟨_, [.int .i64 n], rfl, rfl, by simp only [RepL, Rep]; exact ⟨_, _, rfl, rfl, rfl⟩, fun x hx => by rw [List.mem_singleton] at hx; subst hx; rfl⟩)
    refine ⟨_, _, _, _, _, unpackEr _ w, h, ?_, G⟩
    simp only [Rep, RepL]
    exact ⟨[_, _, _], rfl, ⟨_, _, rfl, rfl, _, _, rfl, ⟨w.heap.size, by simp only [Names.add, ↓reduceIte], rfl⟩, _, _, rfl, rfl, rfl⟩, fun x hx => by simp only [List.mem_cons, List.not_mem_nil, or_false] at hx; rcases hx with rfl | rfl | rfl <;> rfl⟩
theorem rlValueOfAt {k off : Nat} (h : K (.agg [.v (tyV 101), .loc S.next 0, .v (.int .u64 150)]) (S.add (.box 101 [.loc k off]))) : DCalls Tryz.prog 77 [.ifc 101 (.loc k off)] S K :=
  dext (e := fun args => ReflectliteValue.unpack (args.getD 0 (.tuple #[]))) Tryz.func77 (by kernel_rfl) (by kernel_rfl) (by kernel_rfl) (by kernel_rfl) fun base η w vs hM hr => by
    simp only [RepL, Rep] at hr
    obtain ⟨_, _, rfl, ⟨_, rfl, b, hb, rfl⟩, rfl⟩ := hr
    have G := goes_name hM (.box 101 [.loc k off]) #[.pointer (some ⟨b, off, none⟩)] 101 (.inl ⟨_, [.pointer (some ⟨b, off, none⟩)], rfl, rfl, by simp only [RepL, Rep]; exact ⟨_, _, rfl, ⟨b, hb, rfl⟩, rfl⟩, fun x hx => by rw [List.mem_singleton] at hx; subst hx; rfl⟩)
    refine ⟨_, _, _, _, _, unpackAt _ w, h, ?_, G⟩
    simp only [Rep, RepL]
    exact ⟨[_, _, _], rfl, ⟨_, _, rfl, rfl, _, _, rfl, ⟨w.heap.size, by simp only [Names.add, ↓reduceIte], rfl⟩, _, _, rfl, rfl, rfl⟩, fun x hx => by simp only [List.mem_cons, List.not_mem_nil, or_false] at hx; rcases hx with rfl | rfl | rfl <;> rfl⟩
end

theorem partsEra (a : Addr) (w : World) : (ReflectliteValue.parts (.agg #[tyV 56, .pointer (some a), .int .u64 386])).run Tryz.prog w = .ok (some (56, a, 386)) w := by kernel_rfl
theorem partsEr (a : Addr) (w : World) : (ReflectliteValue.parts (.agg #[tyV 56, .pointer (some a), .int .u64 130])).run Tryz.prog w = .ok (some (56, a, 130)) w := by kernel_rfl
theorem directEr (w : World) : (Rtype.directlyAssignable 56 56).run Tryz.prog w = .ok true w := by kernel_rfl
theorem sizeEr (w : World) : (sizeOf 56).run Tryz.prog w = .ok 1 w := by kernel_rfl
theorem setEr {b a : Nat} {x : Value} {n : Int} {W : World} (hb : W.heap[b]? = some (.cells [x].toArray 56 (0, 0))) (ha : W.cell? ⟨a, 0, none⟩ = some (.int .i64 n)) :
    (ReflectliteValue.set #[.agg #[tyV 56, .pointer (some ⟨b, 0, none⟩), .int .u64 386], .agg #[tyV 56, .pointer (some ⟨a, 0, none⟩), .int .u64 130]]).run Tryz.prog W = .ok (.tuple #[]) (W.setRow b [.int .i64 n].toArray) := by
  have q := run_storeCells_at Tryz.prog b 0 56 [.int .i64 n] 0 [x].toArray W hb (by simp) (by simp [Value.oneCell'])
  rw [rls]
  simp only [Sem.run_bind, partsEra, partsEr, Result.andThen]
  simp [ReflectliteValue.flagAddr, loadVar, isAgg, underlying, Tryz.underlying56, ha, Result.andThen, directEr, storeVar, sizeEr, Value.cells] at q ⊢
  simp [q]
theorem rlSetEr {S : St} {K : D → St → Prop} {a b : Nat} {d0 : D} {n : Int} (hb : S.ob b = some (.box 56 [d0])) (ha : S.ob a = some (.box 56 [.v (.int .i64 n)])) (h : K (.tup []) (S.set b (.box 56 [.v (.int .i64 n)]))) :
    DCalls Tryz.prog 90 [.agg [.v (tyV 56), .loc b 0, .v (.int .u64 386)], .agg [.v (tyV 56), .loc a 0, .v (.int .u64 130)]] S K :=
  dext (e := ReflectliteValue.set) Tryz.func90 (by kernel_rfl) (by kernel_rfl) (by kernel_rfl) (by kernel_rfl) fun base η w vs hM hr => by
    simp only [RepL, Rep] at hr
    obtain ⟨_, _, rfl, ⟨_, rfl, ⟨_, _, rfl, rfl, _, _, rfl, ⟨q, hq, rfl⟩, _, _, rfl, rfl, rfl⟩, _⟩, _, _, rfl, ⟨_, rfl, ⟨_, _, rfl, rfl, _, _, rfl, ⟨p, hp, rfl⟩, _, _, rfl, rfl, rfl⟩, _⟩, rfl⟩ := hr
    obtain ⟨us, g1, g2, g3⟩ := hM.box b _ _ q hb hq
    obtain ⟨us', k1, k2, k3⟩ := hM.box a _ _ p ha hp
    simp only [RepL] at g2
    obtain ⟨x, _, rfl, hx, rfl⟩ := g2
    simp only [RepL] at k2
    obtain ⟨y, _, rfl, hy, rfl⟩ := k2
    have hy0 := hy
    simp only [Rep] at hy
    subst hy
    have hc : w.cell? ⟨p, 0, none⟩ = some (.int .i64 n) := by simp [World.cell?, k1]
    have G := goes_set hM (cs' := [.v (.int .i64 n)]) (vs' := [_]) hb hq rfl (by simp only [RepL]; exact ⟨_, _, rfl, hy0, rfl⟩) k3
    exact ⟨_, _, _, _, _, setEr g1 hc, h, by simp only [Rep, RepL]; exact ⟨[], rfl, rfl⟩, G⟩

theorem partsAta (a : Addr) (w : World) : (ReflectliteValue.parts (.agg #[tyV 101, .pointer (some a), .int .u64 406])).run Tryz.prog w = .ok (some (101, a, 406)) w := by kernel_rfl
theorem partsAt (a : Addr) (w : World) : (ReflectliteValue.parts (.agg #[tyV 101, .pointer (some a), .int .u64 150])).run Tryz.prog w = .ok (some (101, a, 150)) w := by kernel_rfl
theorem directAt (w : World) : (Rtype.directlyAssignable 101 101).run Tryz.prog w = .ok true w := by kernel_rfl
theorem sizeAt (w : World) : (sizeOf 101).run Tryz.prog w = .ok 1 w := by kernel_rfl
theorem setAt {b a : Nat} {x : Value} {c : Addr} {W : World} (hb : W.heap[b]? = some (.cells [x].toArray 101 (0, 0))) (ha : W.cell? ⟨a, 0, none⟩ = some (.pointer (some c))) :
    (ReflectliteValue.set #[.agg #[tyV 101, .pointer (some ⟨b, 0, none⟩), .int .u64 406], .agg #[tyV 101, .pointer (some ⟨a, 0, none⟩), .int .u64 150]]).run Tryz.prog W = .ok (.tuple #[]) (W.setRow b [.pointer (some c)].toArray) := by
  have q := run_storeCells_at Tryz.prog b 0 101 [.pointer (some c)] 0 [x].toArray W hb (by simp) (by simp [Value.oneCell'])
  rw [rls]
  simp only [Sem.run_bind, partsAta, partsAt, Result.andThen]
  simp [ReflectliteValue.flagAddr, loadVar, isAgg, underlying, Tryz.underlying101, ha, Result.andThen, directAt, storeVar, sizeAt, Value.cells] at q ⊢
  simp [q]
theorem rlSetAt {S : St} {K : D → St → Prop} {a b : Nat} {d0 : D} {k off : Nat} (hb : S.ob b = some (.box 101 [d0])) (ha : S.ob a = some (.box 101 [.loc k off])) (h : K (.tup []) (S.set b (.box 101 [.loc k off]))) :
    DCalls Tryz.prog 90 [.agg [.v (tyV 101), .loc b 0, .v (.int .u64 406)], .agg [.v (tyV 101), .loc a 0, .v (.int .u64 150)]] S K :=
  dext (e := ReflectliteValue.set) Tryz.func90 (by kernel_rfl) (by kernel_rfl) (by kernel_rfl) (by kernel_rfl) fun base η w vs hM hr => by
    simp only [RepL, Rep] at hr
    obtain ⟨_, _, rfl, ⟨_, rfl, ⟨_, _, rfl, rfl, _, _, rfl, ⟨q, hq, rfl⟩, _, _, rfl, rfl, rfl⟩, _⟩, _, _, rfl, ⟨_, rfl, ⟨_, _, rfl, rfl, _, _, rfl, ⟨p, hp, rfl⟩, _, _, rfl, rfl, rfl⟩, _⟩, rfl⟩ := hr
    obtain ⟨us, g1, g2, g3⟩ := hM.box b _ _ q hb hq
    obtain ⟨us', k1, k2, k3⟩ := hM.box a _ _ p ha hp
    simp only [RepL] at g2
    obtain ⟨x, _, rfl, hx, rfl⟩ := g2
    simp only [RepL] at k2
    obtain ⟨y, _, rfl, hy, rfl⟩ := k2
    have hy0 := hy
    simp only [Rep] at hy
    obtain ⟨c, hc0, rfl⟩ := hy
    have hc : w.cell? ⟨p, 0, none⟩ = some (.pointer (some ⟨c, off, none⟩)) := by simp [World.cell?, k1]
    have G := goes_set hM (cs' := [.loc k off]) (vs' := [_]) hb hq rfl (by simp only [RepL]; exact ⟨_, _, rfl, hy0, rfl⟩) k3
    exact ⟨_, _, _, _, _, setAt g1 hc, h, by simp only [Rep, RepL]; exact ⟨[], rfl, rfl⟩, G⟩
end Go.Proofs.YtonncfminojejaaGreatDoor

namespace Go.Proofs.YtonncfminojejaaGreatDoor
open Go.RowKit
set_option maxRecDepth 200000 in
set_option maxHeartbeats 4000000 in
theorem as0Walk {S : St} {n : Int} {x0 : D} {kb kc : Nat} {K : D → St → Prop} (hk : S.ob kc = some (.box 56 [x0])) (hb : S.ob kb = some (.box 84 [.loc kc 0]))
    (h : ∀ T, S.next ≤ T.next → T.WF → (∀ j o, j ≠ kc → S.ob j = some o → T.ob j = some o) → T.ob kc = some (.box 56 [.v (.int .i64 n)]) → K (.v (.bool true)) T) :
    DCalls Tryz.prog 80 [erD n, .ifc 84 (.loc kc 0), .agg [.v (tyV 84), .loc kb 0, .v (.int .u64 150)], rtD 56] S K := by
  refine dcalls_inline mixed Tryz.func80 rfl (fun _ _ => by kernel_rfl) (rs := [.tmp 8]) rfl (by kernel_rfl) (fun hS => ?_)
  (simp (disch := first | decide | omega | (simp only [nx]; first | done | omega)) only [go_sem]; (repeat with_reducible refine aI ?_))
  (refine dloop_st (fun t => List.contains [0, 8, 9, 10, 11, 12, 14, 15, 16, 17, 18, 19, 20, 21, 22, 23, 24, 25, 26, 27, 28, 29, 30, 31, 32, 33, 34, 35, 36, 37, 38, 39, 40, 41, 42, 43, 44, 45, 46, 47, 48, 49, 50, 51, 52, 53, 54, 55, 56, 57, 58, 59, 60, 61] t) (by kernel_rfl) ?_ (0) (fun i f => i ≤ 0 ∧ f 0 = erD n ∧ f 8 = .v (.bool false)) ?_ ?_; (exact (by (repeat' first | assumption | refine St.WF.leave ?_ _ | refine St.WF.add ?_ _ | refine St.WF.set ?_ ?_ _ | refine St.WF.grow ?_ _ _ _ | refine St.WF.keep ?_ ?_ | (first | omega | (simp only [RowOk.lo, nx]; first | done | omega))))); (exact ⟨(by omega), (by (first | (simp (disch := first | decide | omega | (simp only [nx]; first | done | omega)) only [go_sem]; first | done | rfl) | rfl)), (by (first | (simp (disch := first | decide | omega | (simp only [nx]; first | done | omega)) only [go_sem]; first | done | rfl) | rfl))⟩); intro i g tn hn hT hg hI; obtain ⟨le, q0, q8⟩ := hI; have q1 := hg 1 rfl; have q3 := hg 3 rfl; have q6 := hg 6 rfl; simp (disch := first | decide | omega | (simp only [nx]; first | done | omega)) only [go_sem] at q1 q3 q6; clear hg; have hn' := hn; try simp only [add_next, set_next, grow_next, leave_next, drop_next] at hn')
  have hB : ∀ j o, S.ob j = some o → (St.mk tn (S.add (.box 112 [.v (tyV 84), .loc kb 0, .v (.int .u64 150)])).ob).ob j = some o := fun j o ho => by
    have hkl := hS.lt ho
    show (if j = S.next then _ else S.ob j) = _
    rw [if_neg (by omega), ho]
  (simp (disch := first | decide | omega | (simp only [nx]; first | done | omega)) only [go_sem, q0, q1, q3, q6]; (repeat with_reducible refine aI ?_))
  refine rlTypeOfEr ?_
  (simp (disch := first | decide | omega | (simp only [nx]; first | done | omega)) only [go_sem, q0, q1, q3, q6]; (repeat with_reducible refine aI ?_))
  refine dinvoke_mk methAsgEr (rlAsgEr ?_)
  (simp (disch := first | decide | omega | (simp only [nx]; first | done | omega)) only [go_sem, q0, q1, q3, q6]; (repeat with_reducible refine aI ?_))
  refine rlElemPEr (hB _ _ hb) ?_
  (simp (disch := first | decide | omega | (simp only [nx]; first | done | omega)) only [go_sem, q0, q1, q3, q6]; (repeat with_reducible refine aI ?_))
  refine rlValueOfEr ?_
  (simp (disch := first | decide | omega | (simp only [nx]; first | done | omega)) only [go_sem, q0, q1, q3, q6]; (repeat with_reducible refine aI ?_))
  have hkc := hS.lt hk
  have hkn : kc ≠ tn := by omega
  refine rlSetEr (d0 := x0) (n := n) ?_ ?_ ?_
  · show (if kc = tn then _ else _) = _
    rw [if_neg hkn]; exact hB _ _ hk
  · show (if tn = tn then _ else _) = _
    rw [if_pos rfl]
  (simp (disch := first | decide | omega | (simp only [nx]; first | done | omega)) only [go_sem, q0, q1, q3, q6]; (repeat with_reducible refine aI ?_))
  refine h _ ?_ ?_ (fun j o hj ho => ?_) ?_
  · show S.next ≤ tn + 1
    omega
  · exact (by (repeat' first | assumption | refine St.WF.leave ?_ _ | refine St.WF.add ?_ _ | refine St.WF.set ?_ ?_ _ | refine St.WF.grow ?_ _ _ _ | refine St.WF.keep ?_ ?_ | (first | omega | (simp only [RowOk.lo, nx]; first | done | omega))))
  · show (if j = kc then _ else if j = tn then _ else _) = _
    have := hS.lt ho
    rw [if_neg hj, if_neg (by omega)]; exact hB _ _ ho
  · show (if kc = kc then _ else _) = _
    rw [if_pos rfl]
set_option maxRecDepth 200000 in
set_option maxHeartbeats 4000000 in
theorem as0 {S : St} {n : Int} {x0 : D} {kc : Nat} {K : D → St → Prop} (hk : S.ob kc = some (.box 56 [x0]))
    (h : ∀ T, S.next ≤ T.next → T.WF → (∀ j o, j ≠ kc → S.ob j = some o → T.ob j = some o) → T.ob kc = some (.box 56 [.v (.int .i64 n)]) → K (.v (.bool true)) T) :
    DCalls Tryz.prog 54 [erD n, .ifc 84 (.loc kc 0)] S K := by
  refine dcalls_inline mixed Tryz.func54 rfl (fun _ _ => by kernel_rfl) (rs := [.tmp 4]) rfl (by kernel_rfl) (fun hS => ?_)
  unfold erD
  (simp (disch := first | decide | omega | (simp only [nx]; first | done | omega)) only [go_sem]; (repeat with_reducible refine aI ?_))
  refine rlValueOfPEr ?_
  (simp (disch := first | decide | omega | (simp only [nx]; first | done | omega)) only [go_sem]; (repeat with_reducible refine aI ?_))
  refine rlTypePEr ?_
  (simp (disch := first | decide | omega | (simp only [nx]; first | done | omega)) only [go_sem]; (repeat with_reducible refine aI ?_))
  have k22 : ((22 : Int) != 22) = false := by decide
  have k20 : ((2 : Int) != 20) = true := by decide
  refine dinvoke_mk methKindPEr (rlKindPEr ?_)
  (simp (disch := first | decide | omega | (simp only [nx]; first | done | omega)) only [go_sem, k22]; (repeat with_reducible refine aI ?_))
  refine rlIsNilPEr (k := kc) (off := 0) ?_ ?_
  · (first | (simp (disch := first | decide | omega | (simp only [nx]; first | done | omega)) only [go_sem]; first | done | rfl) | rfl)
  (simp (disch := first | decide | omega | (simp only [nx]; first | done | omega)) only [go_sem, k22]; (repeat with_reducible refine aI ?_))
  refine dinvoke_mk methElemPEr (rlTElemPEr ?_)
  (simp (disch := first | decide | omega | (simp only [nx]; first | done | omega)) only [go_sem]; (repeat with_reducible refine aI ?_))
  refine dinvoke_mk methKindEr (rlKindEr ?_)
  (simp (disch := first | decide | omega | (simp only [nx]; first | done | omega)) only [go_sem, k20]; (repeat with_reducible refine aI ?_))
  refine dinvoke_mk methImplEr (rlImplEr ?_)
  (simp (disch := first | decide | omega | (simp only [nx]; first | done | omega)) only [go_sem]; (repeat with_reducible refine aI ?_))
  have hkc := hS.lt hk
  have hB : ∀ j o, S.ob j = some o → (((S.add (.box 84 [.loc kc 0])).add (.box 112 [.v (.pointer none), .v (.pointer none), .v (.int .u64 0)])).set (S.next + 1) (.box 112 [.v (tyV 84), .loc S.next 0, .v (.int .u64 150)])).ob j = some o := fun j o ho => by
    have hkl := hS.lt ho
    show (if j = S.next + 1 then _ else if j = S.next + 1 then _ else if j = S.next then _ else S.ob j) = _
    rw [if_neg (by omega), if_neg (by omega), if_neg (by omega), ho]
  refine as0Walk (hB _ _ hk) (kb := S.next) ?_ fun T t1 t2 t3 t4 => ?_
  · (first | (simp (disch := first | decide | omega | (simp only [nx]; first | done | omega)) only [go_sem]; first | done | rfl) | rfl)
  (simp (disch := first | decide | omega | (simp only [nx]; first | done | omega)) only [go_sem]; (repeat with_reducible refine aI ?_))
  exact h T (by have : S.next + 1 + 1 ≤ T.next := t1; omega) t2 (fun j o hj ho => t3 j o hj (hB _ _ ho)) t4
theorem code0_er (n : Int) : DPure Tryz.prog 17 [erD n] (.v (.int .i64 n)) := by
  refine dpure_of_dwp mixed Tryz.func17 rfl (fun _ _ => by kernel_rfl) (rs := [.tmp 2]) rfl (by kernel_rfl) trivial (fun S hS => ?_)
  unfold erD
  (simp (disch := first | decide | omega | (simp only [nx]; first | done | omega)) only [go_sem]; (repeat with_reducible refine aI ?_))
  refine as0 (x0 := .v (.int .i64 0)) ?_ fun T t1 t2 t3 t4 => ?_
  · show (if S.next = S.next then _ else _) = _
    rw [if_pos rfl]
  (simp (disch := first | decide | omega | (simp only [nx]; first | done | omega)) only [go_sem, t4]; (repeat with_reducible refine aI ?_))
  have hsub : S.Sub T := ⟨by have : S.next + 1 ≤ T.next := t1; omega, fun j o ho => t3 j o (by have := hS.lt ho; omega) (by have := hS.lt ho; show (if j = S.next then _ else _) = _; rw [if_neg (by omega), ho])⟩
  refine ⟨?_, (by (repeat' first | assumption | exact St.Sub.refl _ | exact RowOk.sub (by assumption) (by assumption) | refine St.Sub.trans ?_ (RowOk.sub (by assumption) (by assumption)) | refine St.Sub.add ?_ ?_ _ | refine St.Sub.set ?_ ?_ ?_ _ | refine St.Sub.keep ?_ ?_ | refine St.WF.leave ?_ _ | refine St.WF.add ?_ _ | refine St.WF.set ?_ ?_ _ | refine St.WF.grow ?_ _ _ _ | refine St.WF.keep ?_ ?_ | (first | omega | (simp only [RowOk.lo, nx]; first | done | omega))))⟩
  rfl
end Go.Proofs.YtonncfminojejaaGreatDoor

namespace Go.Proofs.YtonncfminojejaaGreatDoor
open Go.RowKit
section
set_option maxRecDepth 200000
set_option maxHeartbeats 4000000
theorem closed_bB (l : List UInt8) : (D.sl .no (l.map bD)).closed := by
  simp only [D.closed, D.all, Own.all, true_and]
  refine allL_iff.2 fun d hd => ?_
  obtain ⟨b, _, rfl⟩ := List.mem_map.1 hd
  simp [bD, D.all]
theorem frz_bB (l : List UInt8) : frzL (l.map bD) = l.map bD := by simp [frzL_map, bD, D.frz, Function.comp_def]
theorem elBy : elT Tryz.prog 22 = some 5 := by kernel_rfl
theorem szBy : szOf Tryz.prog 5 = 1 := by kernel_rfl
theorem byBy : bytesOf Tryz.prog 5 = 1 := by kernel_rfl
theorem zeBy : zeroT Tryz.prog 5 = true := by kernel_rfl
theorem wBy (l : List UInt8) : ∀ d ∈ l.map bD, d.width = 1 := fun d hd => by obtain ⟨x, _, rfl⟩ := List.mem_map.1 hd; rfl
end
end Go.Proofs.YtonncfminojejaaGreatDoor

namespace Go.Proofs.YtonncfminojejaaGreatDoor
open Go.RowKit
def encB (l : List UInt8) : D := .sl .no (l.map bD)
section
set_option maxRecDepth 200000
set_option maxHeartbeats 8000000
end
end Go.Proofs.YtonncfminojejaaGreatDoor

namespace Go.Proofs.YtonncfminojejaaGreatDoor
open Go.ChangeShapes Go.WideShapes Go.ChangeAt Go.RowKit Go.Deep Go.Joins
section
set_option maxRecDepth 20000
variable {H : Type} {enc : TypeId × Value → H} {w : World}
theorem ess_cell {fuel : Nat} {cs : List Value} {x : DataW H × List MemPlace} (h : DataW.trod enc Tryz.prog w 0 (fun _ => true) true fuel 26 cs = some x) (hs : Sized Tryz.prog 26 x.1) :
    ∃ l : List (List UInt8), (∀ b ∈ l, b.length ≤ 140737488351232) ∧ l.length ≤ 140737488351232 ∧ ∃ u, cs = [u] ∧ ∀ (η : Names) (X : Nat → Nat → Prop), (∀ b i, X b i) → Rep Tryz.prog w η X (.sl .no (l.map encB)) u := by
  obtain ⟨A, c, l, hcs, hlc, hr, hb⟩ := open_rows_trod (P := Tryz.prog) (α := List UInt8) (size := 1) (bytes := 24) Tryz.underlying26 (by kernel_rfl) (by omega) (by kernel_rfl) (by omega)
    (fun b o a => a.length ≤ 140737488351232 ∧ ∃ u, w.cell? ⟨b, o, none⟩ = some u ∧ ∀ (η : Names) (X : Nat → Nat → Prop), (∀ b i, X b i) → Rep Tryz.prog w η X (.sl .no (a.map bD)) u) (fun fuel cs x b o _ hx hsx hlen hcell => by
      obtain ⟨a, _, ha, u, e, hru⟩ := open_cells_trod (P := Tryz.prog) (fun n : UInt8 => Value.int .u8 (n.toNat : Int)) (fun _ => rfl) (bytes := 1) Tryz.underlying22 (by kernel_rfl) (by kernel_rfl) (by omega) (fun a => True) (fun fuel u x hx _ => by
        obtain ⟨n, e, _, hw⟩ := DataW.trod_int Tryz.underlying5 hx
        have hb := bounds_u8 hw
        injection e with e _
        refine ⟨UInt8.ofNat n.toNat, trivial, ?_⟩
        have e2 : (((UInt8.ofNat n.toNat).toNat : Nat) : Int) = n := by
          rw [UInt8.toNat_ofNat_of_lt' (by show n.toNat < 256; omega)]; omega
        rw [e2]; exact e) hx hsx
      subst e
      exact ⟨a, ha, u, hcell 0 u rfl, hru⟩) h hs
  have hbb : l.length ≤ 140737488351232 := by omega
  refine ⟨l, fun a ha => ?_, hbb, _, hcs, fun η X hX => ?_⟩
  · obtain ⟨i, hi, rfl⟩ := List.getElem_of_mem ha
    obtain ⟨b, o, _, _, hf⟩ := hr (by omega)
    exact (hf i _ (List.getElem?_eq_getElem hi)).1
  · simp only [Rep]
    refine ⟨A, c, by rw [List.length_map], by rw [List.length_map]; exact hlc, by rw [List.length_map]; omega, trivial, fun h0 => ?_⟩
    rw [List.length_map] at h0
    obtain ⟨b, o, e, hbl, hf⟩ := hr h0
    refine ⟨b, o, 1, e, by omega, RepE.mk fun i d hd => ?_⟩
    rw [List.getElem?_map] at hd
    cases hi : l[i]? with
    | none => rw [hi] at hd; cases hd
    | some a =>
      rw [hi] at hd
      injection hd with hd
      subst hd
      obtain ⟨_, u, h1, h2⟩ := hf i a hi
      have h3 := h2 η X hX
      exact ⟨by simp only [encB, RepA], fun _ => ⟨rfl, hX _ _, u, h1, by simp only [Rep] at h3; obtain ⟨A', c', rfl, _⟩ := h3; rfl, h3⟩⟩
end
end Go.Proofs.YtonncfminojejaaGreatDoor

namespace Go.Proofs.YtonncfminojejaaGreatDoor
open Go.RowKit
def IsU64 (n : Nat) : Prop := n < 18446744073709551616
def IsI64 (n : Int) : Prop := -9223372036854775808 ≤ n ∧ n < 9223372036854775808
theorem wrap_u64 (n : Nat) (h : IsU64 n) : IntKind.u64.wrap (n : Int) = n := by
  unfold IsU64 at h
  simp only [IntKind.wrap_u64]
  omega
theorem or80' : ∀ x : Fin 256, bits BinOp.or IntKind.u8 (x.val : Int) 128 = ((x.val % 128 + 128 : Nat) : Int) := by decide +kernel
theorem or80 (k : Nat) : bits BinOp.or IntKind.u8 ((k : Int) % 256) 128 = ((k % 128 + 128 : Nat) : Int) := by
  have h := or80' ⟨k % 256, by omega⟩
  simp only at h
  rw [show ((k : Int) % 256) = ((k % 256 : Nat) : Int) from by omega, h]
  omega
section
variable {P : Program} {t : TypeId} {x y : Operand}
theorem bin_or (k : IntKind) (a b : Int) : dbin P .or t x y (.v (.int k a)) (.v (.int k b)) = some (True, .v (.int k (bits .or k a b))) := by
  simp [dbin, eqGuard, binOp, intBits_or, pureRun_bind, pureRun_pure]
theorem bin_xor (k : IntKind) (a b : Int) : dbin P .xor t x y (.v (.int k a)) (.v (.int k b)) = some (True, .v (.int k (bits .xor k a b))) := by
  simp [dbin, eqGuard, binOp, intBits_xor, pureRun_bind, pureRun_pure]
theorem bin_andNot (k : IntKind) (a b : Int) : dbin P .andNot t x y (.v (.int k a)) (.v (.int k b)) = some (True, .v (.int k (bits .andNot k a b))) := by
  simp [dbin, eqGuard, binOp, intBits_andNot, pureRun_bind, pureRun_pure]
theorem bin_shr7 (a : Nat) : dbin P .shr t x y (.v (.int .u64 a)) (.v (.int .u64 7)) = some (True, .v (.int .u64 ((a / 128 : Nat) : Int))) := by
  simp [dbin, eqGuard, binOp, shift_shr .u64 .u64 (a : Int) 7 (by omega) (by decide), pureRun_bind, pureRun_pure]
theorem bin_shr63 (a : Int) : dbin P .shr t x y (.v (.int .i64 a)) (.v (.int .u64 63)) = some (True, .v (.int .i64 (a / 9223372036854775808))) := by
  simp [dbin, eqGuard, binOp, shift_shr .i64 .u64 a 63 (by omega) (by decide), pureRun_bind, pureRun_pure]
theorem bin_shl1 (a : Int) : dbin P .shl t x y (.v (.int .u64 a)) (.v (.int .u64 1)) = some (True, .v (.int .u64 (IntKind.u64.wrap (a * 2)))) := by
  simp [dbin, eqGuard, binOp, Op.shift, IntKind.bits, pureRun_bind, pureRun_pure]
end
theorem cv_u64u8 (n : Int) : pureRun Tryz.prog (convert 54 5 (.int .u64 n)) = some (.int .u8 (IntKind.u8.wrap n)) := by kernel_rfl
theorem cv_i64u64 (n : Int) : pureRun Tryz.prog (convert 3 54 (.int .i64 n)) = some (.int .u64 (IntKind.u64.wrap n)) := by kernel_rfl
theorem cv_u64i64 (n : Int) : pureRun Tryz.prog (convert 54 3 (.int .u64 n)) = some (.int .i64 (IntKind.i64.wrap n)) := by kernel_rfl
theorem cv_u8u64 (n : Int) : pureRun Tryz.prog (convert 5 54 (.int .u8 n)) = some (.int .u64 (IntKind.u64.wrap n)) := by kernel_rfl
theorem cv_i64u8 (n : Int) : pureRun Tryz.prog (convert 3 5 (.int .i64 n)) = some (.int .u8 (IntKind.u8.wrap n)) := by kernel_rfl
theorem u8T_u8 : u8T Tryz.prog 5 = true := by kernel_rfl
attribute [go_sem] u8T_u8
attribute [go_sem] bin_or bin_xor bin_andNot bin_shr7 bin_shr63 bin_shl1 cv_u64u8 cv_i64u64 cv_u64i64 cv_u8u64 cv_i64u8
def WAt (k : Nat) (bs : List UInt8) (T : St) : Prop := ∃ own, T.ob k = some (.box 72 [.sl own (bs.map bD)]) ∧ ((own = .full ∧ bs = []) ∨ ∃ g, own = .row g ∧ k < g ∧ T.ob g = some (.row 5 bs.length))
structure WFr (k : Nat) (S T : St) : Prop where
  next : S.next ≤ T.next
  ob : ∀ j o, (j < k ∨ (j ≠ k ∧ ∃ t cs, o = .box t cs)) → S.ob j = some o → T.ob j = some o
theorem WFr.box {k : Nat} {S T : St} (h : WFr k S T) (j : Nat) (t : TypeId) (cs : List D) (hj : j ≠ k) (e : S.ob j = some (.box t cs)) : T.ob j = some (.box t cs) := h.ob j _ (.inr ⟨hj, t, cs, rfl⟩) e
theorem WFr.of_keep {k : Nat} {S T : St} (hn : S.next ≤ T.next) (h : ∀ j o, S.ob j = some o → T.ob j = some o) : WFr k S T := ⟨hn, fun j o _ e => h j o e⟩
theorem WFr.refl (k : Nat) (S : St) : WFr k S S := ⟨Nat.le_refl _, fun _ _ _ h => h⟩
theorem WFr.trans {k : Nat} {A B C : St} (h : WFr k A B) (g : WFr k B C) : WFr k A C := ⟨Nat.le_trans h.next g.next, fun j o hj e => g.ob j o hj (h.ob j o hj e)⟩
theorem wd_bD (l : List UInt8) : ∀ d ∈ l.map bD, d.width = szOf Tryz.prog 5 := by
  intro d hd
  obtain ⟨b, _, rfl⟩ := List.mem_map.1 hd
  exact Eq.trans rfl (by kernel_rfl : 1 = szOf Tryz.prog 5)
theorem dapp_bytes {S : St} {ty : TypeId} {own own2 : Own} {bs xs : List UInt8} {K : D → St → Prop} (h : (own = .full ∧ bs = []) ∨ ∃ g, own = .row g ∧ S.ob g = some (.row 5 bs.length)) (hl : bs.length + xs.length ≤ 1099511627776)
    (k : K (.sl (.row S.next) ((bs ++ xs).map bD)) (S.grow own 5 (bs.length + xs.length))) : dapp Tryz.prog S 22 22 ty (.sl own (bs.map bD)) (.sl own2 (xs.map bD)) K := by
  refine dapp_row ?_
  have he : elT Tryz.prog 22 = some 5 := by kernel_rfl
  have hb : bytesOf Tryz.prog 5 = 1 := by kernel_rfl
  have hz : zeroT Tryz.prog 5 = true := by kernel_rfl
  simp only [dappend, he, hz, hb, List.length_map, ← List.map_append, true_and, Option.isSome_some]
  refine ⟨wd_bD bs, wd_bD xs, ?_, by omega, by omega, k⟩
  rcases h with ⟨rfl, rfl⟩ | ⟨g, rfl, h⟩
  · trivial
  · exact h
set_option maxRecDepth 200000 in
set_option maxHeartbeats 4000000 in
theorem raw_w {S : St} {k : Nat} {bs : List UInt8} (own2 : Own) (xs : List UInt8) (hk : k < S.next) (h : WAt k bs S) (hl : bs.length + xs.length ≤ 1099511627776) : DCalls Tryz.prog 44 [.loc k 0, .sl own2 (xs.map bD)] S fun d T => d = undefD ∧ WAt k (bs ++ xs) T ∧ WFr k S T := by
  obtain ⟨own, h1, h2⟩ := h
  refine dcalls_inline mixed Tryz.func44 rfl (fun _ _ => by kernel_rfl) (rs := []) rfl (by kernel_rfl) (fun hS => ?_)
  (simp (disch := first | decide | omega | (simp only [nx]; first | done | omega)) only [go_sem, h1]; (repeat with_reducible refine aI ?_))
  have hk2 : (k = S.next) = False := by simp; omega
  rcases h2 with ⟨rfl, rfl⟩ | ⟨g, rfl, hg, h2⟩
  · refine dapp_bytes (.inl ⟨rfl, rfl⟩) (by omega) ?_
    (simp (disch := first | decide | omega | (simp only [nx]; first | done | omega)) only [go_sem, hk2, h1]; (repeat with_reducible refine aI ?_))
    refine ⟨⟨.row S.next, by simp [St.set], .inr ⟨S.next, rfl, by omega, ?_⟩⟩, ⟨by simp [St.set, St.grow, St.leave, St.add], fun j o hj e => ?_⟩⟩
    · simp [St.grow, St.leave, St.add, St.set, Ne.symm (show k ≠ S.next by omega)]
    · have hlt := hS.lt e
      have hj : j ≠ k := by rcases hj with h | h; omega; exact h.1
      simp [St.grow, St.leave, St.add, St.set, hj, show j ≠ S.next by omega, e]
  · have hkg : (k = g) = False := by simp; omega
    refine dapp_bytes (.inr ⟨g, rfl, h2⟩) (by omega) ?_
    (simp (disch := first | decide | omega | (simp only [nx]; first | done | omega)) only [go_sem, hk2, hkg, h1]; (repeat with_reducible refine aI ?_))
    refine ⟨⟨.row S.next, by simp [St.set], .inr ⟨S.next, rfl, by omega, ?_⟩⟩, ⟨by simp [St.set, St.grow, St.leave, St.add, St.drop], fun j o hj e => ?_⟩⟩
    · simp [St.grow, St.leave, St.add, St.set, St.drop, Ne.symm (show k ≠ S.next by omega)]
    · have hlt := hS.lt e
      have hjg : j ≠ g := fun e2 => by
        rcases hj with h | ⟨_, t, cs, rfl⟩
        · omega
        · rw [e2, h2] at e; cases e
      have hj : j ≠ k := by rcases hj with h | h; omega; exact h.1
      simp [St.grow, St.leave, St.add, St.set, St.drop, hj, hjg, show j ≠ S.next by omega, e]
theorem WAt.box {k : Nat} {bs : List UInt8} {S T : St} (h : WAt k bs S) (hn : S.next ≤ T.next) (hS : S.WF) (hb : ∀ j o, S.ob j = some o → T.ob j = some o) : WAt k bs T := by
  obtain ⟨own, h1, h2⟩ := h
  refine ⟨own, hb _ _ h1, h2.imp id fun ⟨g, h3, h4, h5⟩ => ⟨g, h3, h4, hb _ _ h5⟩⟩
theorem add_keep {S : St} (hS : S.WF) (o : Ob) : ∀ j o', S.ob j = some o' → (S.add o).ob j = some o' := by
  intro j o' h
  have hlt := hS.lt h
  simp [St.add, show j ≠ S.next by omega, h]
theorem WAt.add {k : Nat} {bs : List UInt8} {S : St} (h : WAt k bs S) (hS : S.WF) (o : Ob) : WAt k bs (S.add o) := h.box (Nat.le_succ _) hS (add_keep hS o)
theorem WFr.add {k : Nat} {S T : St} (h : WFr k S T) (hT : T.WF) (o : Ob) : WFr k S (T.add o) := h.trans (WFr.of_keep (Nat.le_succ _) (add_keep hT o))
set_option maxRecDepth 200000 in
set_option maxHeartbeats 4000000 in
theorem byte_w {S : St} {k : Nat} {bs : List UInt8} (b : UInt8) (hk : k < S.next) (h : WAt k bs S) (hl : bs.length + 1 ≤ 1099511627776) : DCalls Tryz.prog 42 [.loc k 0, bD b] S fun d T => d = undefD ∧ WAt k (bs ++ [b]) T ∧ WFr k S T := by
  refine dcalls_inline mixed Tryz.func42 rfl (fun _ _ => by kernel_rfl) (rs := []) rfl (by kernel_rfl) (fun hS => ?_)
  (simp (disch := first | decide | omega | (simp only [nx]; first | done | omega)) only [go_sem, show bD b = .v (.int .u8 b.toNat) from rfl]; (repeat with_reducible refine aI ?_))
  refine (raw_w .full [b] hk h hl).mono ?_
  rintro _ T ⟨rfl, h1, h2⟩
  (simp (disch := first | decide | omega | (simp only [nx]; first | done | omega)) only [go_sem]; (repeat with_reducible refine aI ?_))
  exact h2
theorem bD1 (n : Nat) (h : n < 256) : [D.v (.int .u8 (n : Int))] = [b8 n].map bD := by
  simp [bD, b8_toNat n h]
theorem wrap_u8 (n : Nat) : IntKind.u8.wrap (n : Int) = (n : Int) % 256 := IntKind.wrap_u8 _
set_option maxRecDepth 200000 in
set_option maxHeartbeats 4000000 in
theorem number_w {S : St} {k : Nat} {bs : List UInt8} (n : Nat) (hn : IsU64 n) (hk : k < S.next) (h : WAt k bs S) (hl : bs.length + 10 ≤ 1099511627776) : DCalls Tryz.prog 45 [.loc k 0, .v (.int .u64 (n : Int))] S fun d T => d = undefD ∧ WAt k (bs ++ numB n) T ∧ WFr k S T := by
  refine dcalls_inline mixed Tryz.func45 rfl (fun _ _ => by kernel_rfl) (rs := []) rfl (by kernel_rfl) (fun hS => ?_)
  (simp (disch := first | decide | omega | (simp only [nx]; first | done | omega)) only [go_sem]; (repeat with_reducible refine aI ?_))
  have hnl := numB_length_le n hn
  refine dloop_down (fun t => List.contains [1, 4, 5, 6, 7, 8, 9, 10, 11, 12, 13] t) (by kernel_rfl) hS (fun m g T => ∃ done, done ++ numB m = numB n ∧ IsU64 m ∧ g 1 = .v (.int .u64 (m : Int)) ∧ WAt k (bs ++ done) T ∧ WFr k S T) n ⟨[], rfl, hn, rfl, by rw [List.append_nil]; exact h, WFr.refl k S⟩ ?_
  rintro m g T hT hg ⟨done, hd, hm, q1, hW, hF⟩
  have q0 : g 0 = .loc k 0 := hg 0 rfl
  have hkT : k < T.next := Nat.lt_of_lt_of_le hk hF.next
  have hdl : (bs ++ done).length + 1 ≤ 1099511627776 := by
    have := congrArg List.length hd
    rw [List.length_append] at this
    have := numB_pos m
    rw [List.length_append]; omega
  by_cases hlt : m < 128
  · have b1 : decide ((128 : Int) ≤ (m : Int)) = false := by simp; omega
    have w8 : IntKind.u8.wrap (m : Int) = (m : Int) := by rw [wrap_u8]; omega
    (simp (disch := first | decide | omega | (simp only [nx]; first | done | omega)) only [go_sem, q0, q1, b1, w8]; (repeat with_reducible refine aI ?_))
    rw [bD1 m (by omega)]
    refine (raw_w .full [b8 m] hkT hW hdl).mono ?_
    rintro _ T1 ⟨rfl, h1, h2⟩
    (simp (disch := first | decide | omega | (simp only [nx]; first | done | omega)) only [go_sem]; (repeat with_reducible refine aI ?_))
    refine ⟨?_, hF.trans h2⟩
    rw [← hd, numB_lt m hlt, ← List.append_assoc]; exact h1
  · have b1 : decide ((128 : Int) ≤ (m : Int)) = true := by simp; omega
    (simp (disch := first | decide | omega | (simp only [nx]; first | done | omega)) only [go_sem, q0, q1, b1, wrap_u8, or80]; (repeat with_reducible refine aI ?_))
    rw [bD1 (m % 128 + 128) (by omega)]
    refine (raw_w .full [b8 (m % 128 + 128)] hkT hW hdl).mono ?_
    rintro _ T1 ⟨rfl, h1, h2⟩
    (simp (disch := first | decide | omega | (simp only [nx]; first | done | omega)) only [go_sem, q0, q1]; (repeat with_reducible refine aI ?_))
    refine ⟨m / 128, T1.ob, by omega, fun _ _ h => h, done ++ [b8 (m % 128 + 128)], ?_, by unfold IsU64 at *; omega, ?_, by rw [← List.append_assoc]; exact h1, hF.trans h2⟩
    · rw [List.append_assoc, ← hd, numB_ge m hlt]; rfl
    · (first | (simp (disch := first | decide | omega | (simp only [nx]; first | done | omega)) only [go_sem]; first | done | rfl) | rfl)
set_option maxRecDepth 200000 in
set_option maxHeartbeats 4000000 in
theorem bytes_w {S : St} {k : Nat} {bs : List UInt8} (own2 : Own) (xs : List UInt8) (hk : k < S.next) (h : WAt k bs S) (hl : bs.length + xs.length + 10 ≤ 1099511627776) : DCalls Tryz.prog 46 [.loc k 0, .sl own2 (xs.map bD)] S fun d T => d = undefD ∧ WAt k (bs ++ (numB xs.length ++ xs)) T ∧ WFr k S T := by
  refine dcalls_inline mixed Tryz.func46 rfl (fun _ _ => by kernel_rfl) (rs := []) rfl (by kernel_rfl) (fun hS => ?_)
  have hu : IsU64 xs.length := by unfold IsU64; omega
  (simp (disch := first | decide | omega | (simp only [nx]; first | done | omega)) only [go_sem, wrap_u64 xs.length hu]; (repeat with_reducible refine aI ?_))
  refine (number_w xs.length hu hk h (by omega)).mono ?_
  rintro _ T ⟨rfl, h1, h2⟩
  (simp (disch := first | decide | omega | (simp only [nx]; first | done | omega)) only [go_sem]; (repeat with_reducible refine aI ?_))
  have := numB_length_le xs.length hu
  refine (raw_w own2 xs (Nat.lt_of_lt_of_le hk h2.next) h1 (by rw [List.length_append]; omega)).mono ?_
  rintro _ T1 ⟨rfl, h3, h4⟩
  (simp (disch := first | decide | omega | (simp only [nx]; first | done | omega)) only [go_sem]; (repeat with_reducible refine aI ?_))
  refine ⟨by rw [← List.append_assoc]; exact h3, h2.trans h4⟩
set_option maxRecDepth 200000 in
set_option maxHeartbeats 4000000 in
theorem bool_w {S : St} {k : Nat} {bs : List UInt8} (b : Bool) (hk : k < S.next) (h : WAt k bs S) (hl : bs.length + 1 ≤ 1099511627776) : DCalls Tryz.prog 43 [.loc k 0, .v (.bool b)] S fun d T => d = undefD ∧ WAt k (bs ++ [if b then 1 else 0]) T ∧ WFr k S T := by
  refine dcalls_inline mixed Tryz.func43 rfl (fun _ _ => by kernel_rfl) (rs := []) rfl (by kernel_rfl) (fun hS => ?_)
  cases b
  · (simp (disch := first | decide | omega | (simp only [nx]; first | done | omega)) only [go_sem]; (repeat with_reducible refine aI ?_))
    refine (raw_w .full [0] hk h (by simpa using hl)).mono ?_
    rintro _ T ⟨rfl, h1, h2⟩
    (simp (disch := first | decide | omega | (simp only [nx]; first | done | omega)) only [go_sem]; (repeat with_reducible refine aI ?_))
    exact ⟨h1, h2⟩
  · (simp (disch := first | decide | omega | (simp only [nx]; first | done | omega)) only [go_sem]; (repeat with_reducible refine aI ?_))
    refine (raw_w .full [1] hk h (by simpa using hl)).mono ?_
    rintro _ T ⟨rfl, h1, h2⟩
    (simp (disch := first | decide | omega | (simp only [nx]; first | done | omega)) only [go_sem]; (repeat with_reducible refine aI ?_))
    exact h2
set_option maxRecDepth 200000 in
set_option maxHeartbeats 4000000 in
theorem out_w {S : St} {k : Nat} {bs : List UInt8} (h : WAt k bs S) (hl : bs.length ≤ 1099511627776) : DCalls Tryz.prog 47 [.loc k 0] S fun d T => ∃ o, d = .sl o (bs.map bD) ∧ WAt k bs T ∧ WFr k S T := by
  obtain ⟨own, h1, h2⟩ := h
  refine dcalls_inline mixed Tryz.func47 rfl (fun _ _ => by kernel_rfl) (rs := [.tmp 2]) rfl (by kernel_rfl) (fun hS => ?_)
  (simp (disch := first | decide | omega | (simp only [nx]; first | done | omega)) only [go_sem, h1]; (repeat with_reducible refine aI ?_))
  refine dapp_bytes (bs := []) (.inl ⟨rfl, rfl⟩) (by simpa using hl) ?_
  (simp (disch := first | decide | omega | (simp only [nx]; first | done | omega)) only [go_sem]; (repeat with_reducible refine aI ?_))
  have hob : ∀ j o, S.ob j = some o → (S.grow .full 5 bs.length).ob j = some o := fun j o e => by
    have hlt := hS.lt e
    simp [St.grow, St.leave, St.add, show j ≠ S.next by omega, e]
  exact ⟨_, rfl, ⟨own, hob _ _ h1, h2.imp id fun ⟨g, h3, h4, h5⟩ => ⟨g, h3, h4, hob _ _ h5⟩⟩, WFr.of_keep (by simp [St.grow, St.leave, St.add]) hob⟩
end Go.Proofs.YtonncfminojejaaGreatDoor

namespace Go.Proofs.YtonncfminojejaaGreatDoor
open Go.RowKit
theorem bD_eq (b : UInt8) : bD b = .v (.int .u8 (b.toNat : Int)) := rfl
theorem andNot80' : ∀ x : Fin 256, bits BinOp.andNot IntKind.u8 (x.val : Int) 128 = ((x.val % 128 : Nat) : Int) := by decide +kernel
theorem digit_put (m c k : Nat) (hm : m < 128 ^ k) (hk : k ≤ 9) (hk9 : k = 9 → c ≤ 1) (hc : c < 256) :
    bits BinOp.or IntKind.u64 (m : Int) (IntKind.u64.wrap (IntKind.u64.wrap (bits BinOp.andNot IntKind.u8 (c : Int) 128) * 2 ^ (7 * k))) = ((m + c % 128 * 128 ^ k : Nat) : Int) := by
  have h1 := andNot80' ⟨c, hc⟩
  simp only at h1
  have e2 : (2 : Nat) ^ (7 * k) = 128 ^ k := by rw [Nat.pow_mul]
  have hu : c % 128 * 128 ^ k < 18446744073709551616 ∧ 128 ^ k ≤ 9223372036854775808 := by
    have h3 : (128 : Nat) ^ k ≤ 128 ^ 9 := Nat.pow_le_pow_right (by omega) hk
    simp at h3
    refine ⟨?_, h3⟩
    by_cases h9 : k = 9
    · subst h9
      have := hk9 rfl
      have h4 : c % 128 * 128 ^ 9 ≤ 1 * 128 ^ 9 := Nat.mul_le_mul_right _ (by omega)
      simp at h4 ⊢
      omega
    · have h5 : (128 : Nat) ^ k ≤ 128 ^ 8 := Nat.pow_le_pow_right (by omega) (by omega)
      have h4 : c % 128 * 128 ^ k ≤ 127 * 128 ^ 8 := Nat.mul_le_mul (by omega) h5
      simp at h4
      omega
  rw [h1, wrap_u64 (c % 128) (by unfold IsU64; omega)]
  have e3 : ((c % 128 : Nat) : Int) * 2 ^ (7 * k) = ((c % 128 * 128 ^ k : Nat) : Int) := by rw [← e2]; push_cast; rfl
  rw [e3, wrap_u64 _ hu.1, bits_or_u64_nat _ _ (by omega) hu.1]
  congr 1
  rw [Nat.or_comm, ← e2, Nat.mul_comm, ← Nat.two_pow_add_eq_or_of_lt (by rw [e2]; exact hm)]
  omega
theorem bin_shl7 {P : Program} {t : TypeId} {x y : Operand} (a : Int) (k : Nat) (hk : k ≤ 9) : dbin P .shl t x y (.v (.int .u64 a)) (.v (.int .i64 ((7 * k : Nat) : Int))) = some (True, .v (.int .u64 (IntKind.u64.wrap (a * 2 ^ (7 * k))))) := by
  have h1 : ¬ ((7 * k : Nat) : Int) < 0 := by omega
  have h2 : min (7 * k) (IntKind.bits .u64) = 7 * k := by simp only [IntKind.bits]; omega
  have h3 : (((7 * k : Nat) : Int)).toNat = 7 * k := by omega
  simp only [dbin, eqGuard, binOp, Op.shift, h1, h3, h2, pureRun_bind, pureRun_pure, if_false]
  rfl
section
variable {P : Program} {f : Fm} {S : St}
theorem pfin_ret3 (t u v : Tmp) (S' : St) (d : D) : DQ.pfin P [.tmp t, .tmp u, .tmp v] S d .ret f S' = PFin S S' (.tup [f t, f u, f v]) d := by
  simp [DQ.pfin, dresL, dres, onVal, one]
theorem pfin_normal3 (t u v : Tmp) (S' : St) (d : D) : DQ.pfin P [.tmp t, .tmp u, .tmp v] S d .normal f S' = PFin S S' (.tup [f t, f u, f v]) d := by
  simp [DQ.pfin, dresL, dres, onVal, one]
end
attribute [go_sem] pfin_ret3 pfin_normal3
def accN (l : List UInt8) : Nat → Nat
  | 0 => 0
  | i + 1 => accN l i + (l.getD i 0).toNat % 128 * 128 ^ i
def numD : Option (Nat × Nat) → D
  | some (n, s) => .tup [.v (.int .u64 (n : Int)), .v (.int .i64 (s : Int)), .v (.int .i64 0)]
  | none => .tup [.v (.int .u64 0), .v (.int .i64 0), .v (.int .i64 2)]
theorem numD_closed (o : Option (Nat × Nat)) : (numD o).closed := by
  cases o <;> simp [numD, D.closed, D.all, allL]
theorem drop_cons' {α : Type} (l : List α) (k : Nat) (h : k < l.length) : l.drop k = l[k] :: l.drop (k + 1) := by rw [List.drop_eq_getElem_cons h]
set_option maxRecDepth 200000 in
set_option maxHeartbeats 8000000 in
theorem number_d (own : Own) (l : List UInt8) (hl : l.length ≤ 1099511627776) : DPure Tryz.prog 65 [.sl own (l.map bD)] (numD (numP l)) := by
  refine dpure_of_dwp mixed Tryz.func65 rfl (fun _ _ => by kernel_rfl) (rs := [.tmp 2, .tmp 3, .tmp 4]) rfl (by kernel_rfl) (numD_closed _) (fun S hS => ?_)
  (simp (disch := first | decide | omega | (simp only [nx]; first | done | omega)) only [go_sem]; (repeat with_reducible refine aI ?_))
  (refine dloop_st (fun t => List.contains [2, 3, 4, 5, 6, 7, 10, 11, 12, 13, 14, 15, 16, 17, 18, 19, 20, 21, 22, 23, 24, 25, 26, 27, 28, 29, 30, 31, 32, 33, 34, 35, 36, 37, 38, 39, 40, 41, 42, 43, 44] t) (by kernel_rfl) ?_ (l.length) (fun i f => i ≤ l.length ∧ f 5 = .v (.int .u64 (accN l i : Nat)) ∧ f 10 = .v (.int .i64 (i : Nat)) ∧ (numP l = numGo i (accN l i) (l.drop i)) ∧ (accN l i < 128 ^ i) ∧ (i ≤ 10) ∧ (i = 10 → IsU64 (accN l i))) ?_ ?_; (exact (by (repeat' first | assumption | refine St.WF.leave ?_ _ | refine St.WF.add ?_ _ | refine St.WF.set ?_ ?_ _ | refine St.WF.grow ?_ _ _ _ | refine St.WF.keep ?_ ?_ | (first | omega | (simp only [RowOk.lo, nx]; first | done | omega))))); (exact ⟨(by omega), (by (first | (simp (disch := first | decide | omega | (simp only [nx]; first | done | omega)) only [go_sem]; first | done | rfl) | rfl)), (by (first | (simp (disch := first | decide | omega | (simp only [nx]; first | done | omega)) only [go_sem]; first | done | rfl) | rfl)), (by simp [numP, accN]), (by simp [accN]), (by omega), (fun h => by omega)⟩); intro i g tn hn hT hg hI; obtain ⟨le, q5, q10, hp, hm, hk, hu⟩ := hI; have q8 := hg 8 rfl; have q9 := hg 9 rfl; simp (disch := first | decide | omega | (simp only [nx]; first | done | omega)) only [go_sem] at q8 q9; clear hg; have hn' := hn; try simp only [add_next, set_next, grow_next, leave_next, drop_next] at hn')
  by_cases hlt : i < l.length
  · have b1 : decide ((i : Int) < (l.length : Int)) = true := by simp; omega
    have hd := drop_cons' l i hlt
    have hbyte : l[i].toNat < 256 := UInt8.toNat_lt _
    have hacc : accN l (i + 1) = accN l i + l[i].toNat % 128 * 128 ^ i := by rw [accN, List.getD_eq_getElem?_getD, List.getElem?_eq_getElem hlt]; rfl
    by_cases h10 : i = 10
    · have e1 : ((i : Int) == 10) = true := by simp; omega
      (simp (disch := first | decide | omega | (simp only [nx]; first | done | omega)) only [go_sem, q5, q8, q9, q10, b1, e1, bD_eq]; (repeat with_reducible refine aI ?_))
      refine ⟨?_, (by (repeat' first | assumption | exact St.Sub.refl _ | exact RowOk.sub (by assumption) (by assumption) | refine St.Sub.trans ?_ (RowOk.sub (by assumption) (by assumption)) | refine St.Sub.add ?_ ?_ _ | refine St.Sub.set ?_ ?_ ?_ _ | refine St.Sub.keep ?_ ?_ | refine St.WF.leave ?_ _ | refine St.WF.add ?_ _ | refine St.WF.set ?_ ?_ _ | refine St.WF.grow ?_ _ _ _ | refine St.WF.keep ?_ ?_ | (first | omega | (simp only [RowOk.lo, nx]; first | done | omega))))⟩
      rw [hp, hd, numGo, if_pos (.inl h10)]; rfl
    · have e1 : ((i : Int) == 10) = false := by simp; omega
      by_cases h9 : i = 9 ∧ 1 < l[i].toNat
      · have e2 : ((i : Int) == 9) = true := by simp; omega
        have e3 : decide (1 < (l[i].toNat : Int)) = true := by simp; omega
        (simp (disch := first | decide | omega | (simp only [nx]; first | done | omega)) only [go_sem, q5, q8, q9, q10, b1, e1, e2, e3, bD_eq]; (repeat with_reducible refine aI ?_))
        refine ⟨?_, (by (repeat' first | assumption | exact St.Sub.refl _ | exact RowOk.sub (by assumption) (by assumption) | refine St.Sub.trans ?_ (RowOk.sub (by assumption) (by assumption)) | refine St.Sub.add ?_ ?_ _ | refine St.Sub.set ?_ ?_ ?_ _ | refine St.Sub.keep ?_ ?_ | refine St.WF.leave ?_ _ | refine St.WF.add ?_ _ | refine St.WF.set ?_ ?_ _ | refine St.WF.grow ?_ _ _ _ | refine St.WF.keep ?_ ?_ | (first | omega | (simp only [RowOk.lo, nx]; first | done | omega))))⟩
        rw [hp, hd, numGo, if_pos (.inr h9)]; rfl
      · have hg : ¬ (i = 10 ∨ i = 9 ∧ 1 < l[i].toNat) := by omega
        have hdig := digit_put (accN l i) l[i].toNat i hm (by omega) (fun h => by omega) hbyte
        have w7 : IntKind.i64.wrap (7 * (i : Int)) = ((7 * i : Nat) : Int) := by rw [IntWalk.i64_in _ ⟨by omega, by omega⟩]; push_cast; rfl
        have w1 : IntKind.i64.wrap ((i : Int) + 1) = ((i + 1 : Nat) : Int) := IntWalk.i64_in _ ⟨by omega, by omega⟩
        have hs7 : ∀ {t : TypeId} {x y : Operand} (a : Int), dbin Tryz.prog .shl t x y (.v (.int .u64 a)) (.v (.int .i64 ((7 * i : Nat) : Int))) = some (True, .v (.int .u64 (IntKind.u64.wrap (a * 2 ^ (7 * i))))) := fun a => bin_shl7 a i (by omega)
        have hU : accN l (i + 1) < 128 ^ (i + 1) ∧ (i + 1 = 10 → IsU64 (accN l (i + 1))) := by
          rw [hacc]
          refine ⟨?_, fun h => ?_⟩
          · have h2 : l[i].toNat % 128 * 128 ^ i ≤ 127 * 128 ^ i := Nat.mul_le_mul_right _ (by omega)
            rw [Nat.pow_succ]; omega
          · have h5 : i = 9 := by omega
            subst h5
            have h4 : l[9].toNat % 128 * 128 ^ 9 ≤ 1 * 128 ^ 9 := Nat.mul_le_mul_right _ (by omega)
            simp at h4 hm
            unfold IsU64
            omega
        have hcase : ∃ b9 b8 : Bool, ((i : Int) == 9) = b9 ∧ decide (1 < (l[i].toNat : Int)) = b8 ∧ (b9 && b8) = false := ⟨_, _, rfl, rfl, by
          cases h : ((i : Int) == 9)
          · rfl
          · have : ¬ (1 < l[i].toNat) := fun h' => h9 ⟨by have := eq_of_beq h; omega, h'⟩
            simp; omega⟩
        obtain ⟨b9, b8, e2, e3, e4⟩ := hcase
        by_cases hge : 128 ≤ l[i].toNat
        · have g1 : decide ((128 : Int) ≤ (l[i].toNat : Int)) = true := by simp; omega
          have hS : numP l = numGo (i + 1) (accN l (i + 1)) (l.drop (i + 1)) := by rw [hp, hd, numGo, if_neg hg, if_pos hge, hacc]
          cases b9
          · (simp (disch := first | decide | omega | (simp only [nx]; first | done | omega)) only [go_sem, q5, q8, q9, q10, b1, e1, e2, e3, bD_eq, w7, hs7, hdig, g1]; (repeat with_reducible refine aI ?_))
            (refine ⟨by omega, (by (repeat' first | assumption | exact St.Sub.refl _ | exact RowOk.sub (by assumption) (by assumption) | refine St.Sub.trans ?_ (RowOk.sub (by assumption) (by assumption)) | refine St.Sub.add ?_ ?_ _ | refine St.Sub.set ?_ ?_ ?_ _ | refine St.Sub.keep ?_ ?_ | refine St.WF.leave ?_ _ | refine St.WF.add ?_ _ | refine St.WF.set ?_ ?_ _ | refine St.WF.grow ?_ _ _ _ | refine St.WF.keep ?_ ?_ | (first | omega | (simp only [RowOk.lo, nx]; first | done | omega)))), ?_⟩; refine ⟨by omega, ?_, ?_, ?_, ?_, ?_, ?_⟩; all_goals (try (first | (simp (disch := first | decide | omega | (simp only [nx]; first | done | omega)) only [go_sem, w1, hacc]; first | done | rfl) | rfl)))
            · exact hS
            · exact hU.1
            · omega
            · exact hU.2
          · obtain rfl : b8 = false := by simpa using e4
            (simp (disch := first | decide | omega | (simp only [nx]; first | done | omega)) only [go_sem, q5, q8, q9, q10, b1, e1, e2, e3, bD_eq, w7, hs7, hdig, g1]; (repeat with_reducible refine aI ?_))
            (refine ⟨by omega, (by (repeat' first | assumption | exact St.Sub.refl _ | exact RowOk.sub (by assumption) (by assumption) | refine St.Sub.trans ?_ (RowOk.sub (by assumption) (by assumption)) | refine St.Sub.add ?_ ?_ _ | refine St.Sub.set ?_ ?_ ?_ _ | refine St.Sub.keep ?_ ?_ | refine St.WF.leave ?_ _ | refine St.WF.add ?_ _ | refine St.WF.set ?_ ?_ _ | refine St.WF.grow ?_ _ _ _ | refine St.WF.keep ?_ ?_ | (first | omega | (simp only [RowOk.lo, nx]; first | done | omega)))), ?_⟩; refine ⟨by omega, ?_, ?_, ?_, ?_, ?_, ?_⟩; all_goals (try (first | (simp (disch := first | decide | omega | (simp only [nx]; first | done | omega)) only [go_sem, w1, hacc]; first | done | rfl) | rfl)))
            · exact hS
            · exact hU.1
            · omega
            · exact hU.2
        · have g1 : decide ((128 : Int) ≤ (l[i].toNat : Int)) = false := by simp; omega
          by_cases hz : l[i].toNat = 0 ∧ 0 < i
          · have z1 : ((l[i].toNat : Int) == 0) = true := by simp; omega
            have z2 : decide ((0 : Int) < (i : Int)) = true := by simp; omega
            have hR : numP l = none := by rw [hp, hd, numGo, if_neg hg, if_neg hge, if_pos hz]
            rw [hR]
            cases b9
            · (simp (disch := first | decide | omega | (simp only [nx]; first | done | omega)) only [go_sem, q5, q8, q9, q10, b1, e1, e2, e3, bD_eq, w7, hs7, hdig, g1, z1, z2]; (repeat with_reducible refine aI ?_))
              refine ⟨?_, (by (repeat' first | assumption | exact St.Sub.refl _ | exact RowOk.sub (by assumption) (by assumption) | refine St.Sub.trans ?_ (RowOk.sub (by assumption) (by assumption)) | refine St.Sub.add ?_ ?_ _ | refine St.Sub.set ?_ ?_ ?_ _ | refine St.Sub.keep ?_ ?_ | refine St.WF.leave ?_ _ | refine St.WF.add ?_ _ | refine St.WF.set ?_ ?_ _ | refine St.WF.grow ?_ _ _ _ | refine St.WF.keep ?_ ?_ | (first | omega | (simp only [RowOk.lo, nx]; first | done | omega))))⟩
              rfl
            · obtain rfl : b8 = false := by simpa using e4
              (simp (disch := first | decide | omega | (simp only [nx]; first | done | omega)) only [go_sem, q5, q8, q9, q10, b1, e1, e2, e3, bD_eq, w7, hs7, hdig, g1, z1, z2]; (repeat with_reducible refine aI ?_))
              refine ⟨?_, (by (repeat' first | assumption | exact St.Sub.refl _ | exact RowOk.sub (by assumption) (by assumption) | refine St.Sub.trans ?_ (RowOk.sub (by assumption) (by assumption)) | refine St.Sub.add ?_ ?_ _ | refine St.Sub.set ?_ ?_ ?_ _ | refine St.Sub.keep ?_ ?_ | refine St.WF.leave ?_ _ | refine St.WF.add ?_ _ | refine St.WF.set ?_ ?_ _ | refine St.WF.grow ?_ _ _ _ | refine St.WF.keep ?_ ?_ | (first | omega | (simp only [RowOk.lo, nx]; first | done | omega))))⟩
              rfl
          · have hR : numP l = some (accN l (i + 1), i + 1) := by rw [hp, hd, numGo, if_neg hg, if_neg hge, if_neg hz, hacc]
            rw [hR, hacc]
            by_cases hz0 : l[i].toNat = 0
            · have z1 : ((l[i].toNat : Int) == 0) = true := by simp; omega
              have z2 : decide ((0 : Int) < (i : Int)) = false := by simp; omega
              cases b9
              · (simp (disch := first | decide | omega | (simp only [nx]; first | done | omega)) only [go_sem, q5, q8, q9, q10, b1, e1, e2, e3, bD_eq, w7, hs7, hdig, g1, z1, z2, w1]; (repeat with_reducible refine aI ?_))
                refine ⟨?_, (by (repeat' first | assumption | exact St.Sub.refl _ | exact RowOk.sub (by assumption) (by assumption) | refine St.Sub.trans ?_ (RowOk.sub (by assumption) (by assumption)) | refine St.Sub.add ?_ ?_ _ | refine St.Sub.set ?_ ?_ ?_ _ | refine St.Sub.keep ?_ ?_ | refine St.WF.leave ?_ _ | refine St.WF.add ?_ _ | refine St.WF.set ?_ ?_ _ | refine St.WF.grow ?_ _ _ _ | refine St.WF.keep ?_ ?_ | (first | omega | (simp only [RowOk.lo, nx]; first | done | omega))))⟩
                rfl
              · obtain rfl : b8 = false := by simpa using e4
                (simp (disch := first | decide | omega | (simp only [nx]; first | done | omega)) only [go_sem, q5, q8, q9, q10, b1, e1, e2, e3, bD_eq, w7, hs7, hdig, g1, z1, z2, w1]; (repeat with_reducible refine aI ?_))
                refine ⟨?_, (by (repeat' first | assumption | exact St.Sub.refl _ | exact RowOk.sub (by assumption) (by assumption) | refine St.Sub.trans ?_ (RowOk.sub (by assumption) (by assumption)) | refine St.Sub.add ?_ ?_ _ | refine St.Sub.set ?_ ?_ ?_ _ | refine St.Sub.keep ?_ ?_ | refine St.WF.leave ?_ _ | refine St.WF.add ?_ _ | refine St.WF.set ?_ ?_ _ | refine St.WF.grow ?_ _ _ _ | refine St.WF.keep ?_ ?_ | (first | omega | (simp only [RowOk.lo, nx]; first | done | omega))))⟩
                rfl
            · have z1 : ((l[i].toNat : Int) == 0) = false := by simp; omega
              cases b9
              · (simp (disch := first | decide | omega | (simp only [nx]; first | done | omega)) only [go_sem, q5, q8, q9, q10, b1, e1, e2, e3, bD_eq, w7, hs7, hdig, g1, z1, w1]; (repeat with_reducible refine aI ?_))
                refine ⟨?_, (by (repeat' first | assumption | exact St.Sub.refl _ | exact RowOk.sub (by assumption) (by assumption) | refine St.Sub.trans ?_ (RowOk.sub (by assumption) (by assumption)) | refine St.Sub.add ?_ ?_ _ | refine St.Sub.set ?_ ?_ ?_ _ | refine St.Sub.keep ?_ ?_ | refine St.WF.leave ?_ _ | refine St.WF.add ?_ _ | refine St.WF.set ?_ ?_ _ | refine St.WF.grow ?_ _ _ _ | refine St.WF.keep ?_ ?_ | (first | omega | (simp only [RowOk.lo, nx]; first | done | omega))))⟩
                rfl
              · obtain rfl : b8 = false := by simpa using e4
                (simp (disch := first | decide | omega | (simp only [nx]; first | done | omega)) only [go_sem, q5, q8, q9, q10, b1, e1, e2, e3, bD_eq, w7, hs7, hdig, g1, z1, w1]; (repeat with_reducible refine aI ?_))
                refine ⟨?_, (by (repeat' first | assumption | exact St.Sub.refl _ | exact RowOk.sub (by assumption) (by assumption) | refine St.Sub.trans ?_ (RowOk.sub (by assumption) (by assumption)) | refine St.Sub.add ?_ ?_ _ | refine St.Sub.set ?_ ?_ ?_ _ | refine St.Sub.keep ?_ ?_ | refine St.WF.leave ?_ _ | refine St.WF.add ?_ _ | refine St.WF.set ?_ ?_ _ | refine St.WF.grow ?_ _ _ _ | refine St.WF.keep ?_ ?_ | (first | omega | (simp only [RowOk.lo, nx]; first | done | omega))))⟩
                rfl
  · have b1 : decide ((i : Int) < (l.length : Int)) = false := by simp; omega
    have hR : numP l = none := by rw [hp, List.drop_eq_nil_of_le (by omega)]; rfl
    rw [hR]
    (simp (disch := first | decide | omega | (simp only [nx]; first | done | omega)) only [go_sem, q5, q8, q9, q10, b1]; (repeat with_reducible refine aI ?_))
    refine ⟨?_, (by (repeat' first | assumption | exact St.Sub.refl _ | exact RowOk.sub (by assumption) (by assumption) | refine St.Sub.trans ?_ (RowOk.sub (by assumption) (by assumption)) | refine St.Sub.add ?_ ?_ _ | refine St.Sub.set ?_ ?_ ?_ _ | refine St.Sub.keep ?_ ?_ | refine St.WF.leave ?_ _ | refine St.WF.add ?_ _ | refine St.WF.set ?_ ?_ _ | refine St.WF.grow ?_ _ _ _ | refine St.WF.keep ?_ ?_ | (first | omega | (simp only [RowOk.lo, nx]; first | done | omega))))⟩
    rfl
end Go.Proofs.YtonncfminojejaaGreatDoor

namespace Go.Proofs.YtonncfminojejaaGreatDoor
open Go.RowKit
theorem u8ne (x y : UInt8) : ((x.toNat : Int) != (y.toNat : Int)) = !decide (x = y) := by
  by_cases h : x = y
  · subst h; simp
  · have : ¬ ((x.toNat : Int) = (y.toNat : Int)) := fun e => h (UInt8.toNat_inj.1 (by omega))
    simp [h, this, bne]
set_option maxRecDepth 200000 in
set_option maxHeartbeats 8000000 in
theorem bytesEq_d (own own2 : Own) (p q : List UInt8) (hp : p.length ≤ 1000000) (hq : q.length ≤ 1000000) : DPure Tryz.prog 11 [.sl own (p.map bD), .sl own2 (q.map bD)] (.v (.bool (decide (p = q)))) := by
  refine dpure_of_dwp mixed Tryz.func11 rfl (fun _ _ => by kernel_rfl) (rs := [.tmp 4]) rfl (by kernel_rfl) trivial (fun S hS => ?_)
  by_cases hl : p.length = q.length
  · have b0 : ((p.length : Int) != (q.length : Int)) = false := by simp [hl]
    (simp (disch := first | decide | omega | (simp only [nx]; first | done | omega)) only [go_sem, b0]; (repeat with_reducible refine aI ?_))
    (refine dloop_st (fun t => List.contains [4, 5, 11, 12, 13, 14, 15, 16, 17, 18, 19, 20, 21, 22, 23, 24, 25] t) (by kernel_rfl) ?_ (p.length) (fun i f => i ≤ p.length ∧ f 5 = .v (.int .i64 (i : Nat)) ∧ (∀ j, j < i → p[j]? = q[j]?)) ?_ ?_; (exact (by (repeat' first | assumption | refine St.WF.leave ?_ _ | refine St.WF.add ?_ _ | refine St.WF.set ?_ ?_ _ | refine St.WF.grow ?_ _ _ _ | refine St.WF.keep ?_ ?_ | (first | omega | (simp only [RowOk.lo, nx]; first | done | omega))))); (exact ⟨(by omega), (by (first | (simp (disch := first | decide | omega | (simp only [nx]; first | done | omega)) only [go_sem]; first | done | rfl) | rfl)), (fun j hj => by omega)⟩); intro i g tn hn hT hg hI; obtain ⟨le, q5, hsame⟩ := hI; have q0 := hg 0 rfl; have q1 := hg 1 rfl; simp (disch := first | decide | omega | (simp only [nx]; first | done | omega)) only [go_sem] at q0 q1; clear hg; have hn' := hn; try simp only [add_next, set_next, grow_next, leave_next, drop_next] at hn')
    by_cases hlt : i < p.length
    · have b1 : decide ((i : Int) < (p.length : Int)) = true := by simp; omega
      have w1 : IntKind.i64.wrap ((i : Int) + 1) = ((i + 1 : Nat) : Int) := IntWalk.i64_in _ ⟨by omega, by omega⟩
      have hlt2 : i < q.length := by omega
      by_cases hx : p[i] = q[i]
      · have b2 : (!decide (p[i] = q[i])) = false := by simp [hx]
        (simp (disch := first | decide | omega | (simp only [nx]; first | done | omega)) only [go_sem, q0, q1, q5, b1, w1]; (repeat with_reducible refine aI ?_))
        refine ddraw_mk 9 (by kernel_rfl) ?_
        (simp (disch := first | decide | omega | (simp only [nx]; first | done | omega)) only [go_sem, q0, q1, q5, b1, b2, w1, bD_eq, u8ne]; (repeat with_reducible refine aI ?_))
        (refine ⟨by omega, (by (repeat' first | assumption | exact St.Sub.refl _ | exact RowOk.sub (by assumption) (by assumption) | refine St.Sub.trans ?_ (RowOk.sub (by assumption) (by assumption)) | refine St.Sub.add ?_ ?_ _ | refine St.Sub.set ?_ ?_ ?_ _ | refine St.Sub.keep ?_ ?_ | refine St.WF.leave ?_ _ | refine St.WF.add ?_ _ | refine St.WF.set ?_ ?_ _ | refine St.WF.grow ?_ _ _ _ | refine St.WF.keep ?_ ?_ | (first | omega | (simp only [RowOk.lo, nx]; first | done | omega)))), ?_⟩; refine ⟨by omega, ?_, ?_⟩; all_goals (try (first | (simp (disch := first | decide | omega | (simp only [nx]; first | done | omega)) only [go_sem, w1]; first | done | rfl) | rfl)))
        intro j hj
        by_cases e : j = i
        · subst e; rw [List.getElem?_eq_getElem hlt, List.getElem?_eq_getElem hlt2, hx]
        · exact hsame j (by omega)
      · have b2 : (!decide (p[i] = q[i])) = true := by simp [hx]
        (simp (disch := first | decide | omega | (simp only [nx]; first | done | omega)) only [go_sem, q0, q1, q5, b1]; (repeat with_reducible refine aI ?_))
        refine ddraw_mk 9 (by kernel_rfl) ?_
        (simp (disch := first | decide | omega | (simp only [nx]; first | done | omega)) only [go_sem, q0, q1, q5, b1, b2, bD_eq, u8ne]; (repeat with_reducible refine aI ?_))
        refine ⟨?_, (by (repeat' first | assumption | exact St.Sub.refl _ | exact RowOk.sub (by assumption) (by assumption) | refine St.Sub.trans ?_ (RowOk.sub (by assumption) (by assumption)) | refine St.Sub.add ?_ ?_ _ | refine St.Sub.set ?_ ?_ ?_ _ | refine St.Sub.keep ?_ ?_ | refine St.WF.leave ?_ _ | refine St.WF.add ?_ _ | refine St.WF.set ?_ ?_ _ | refine St.WF.grow ?_ _ _ _ | refine St.WF.keep ?_ ?_ | (first | omega | (simp only [RowOk.lo, nx]; first | done | omega))))⟩
        rw [decide_eq_false]
        · rfl
        · intro e; subst e; exact hx rfl
    · have b1 : decide ((i : Int) < (p.length : Int)) = false := by simp; omega
      (simp (disch := first | decide | omega | (simp only [nx]; first | done | omega)) only [go_sem, q0, q1, q5, b1]; (repeat with_reducible refine aI ?_))
      refine ⟨?_, (by (repeat' first | assumption | exact St.Sub.refl _ | exact RowOk.sub (by assumption) (by assumption) | refine St.Sub.trans ?_ (RowOk.sub (by assumption) (by assumption)) | refine St.Sub.add ?_ ?_ _ | refine St.Sub.set ?_ ?_ ?_ _ | refine St.Sub.keep ?_ ?_ | refine St.WF.leave ?_ _ | refine St.WF.add ?_ _ | refine St.WF.set ?_ ?_ _ | refine St.WF.grow ?_ _ _ _ | refine St.WF.keep ?_ ?_ | (first | omega | (simp only [RowOk.lo, nx]; first | done | omega))))⟩
      rw [decide_eq_true]
      · rfl
      · refine List.ext_getElem? fun j => ?_
        by_cases hj : j < i
        · exact hsame j hj
        · rw [List.getElem?_eq_none (by omega), List.getElem?_eq_none (by omega)]
  · have b0 : ((p.length : Int) != (q.length : Int)) = true := by simp; omega
    (simp (disch := first | decide | omega | (simp only [nx]; first | done | omega)) only [go_sem, b0]; (repeat with_reducible refine aI ?_))
    refine ⟨?_, (by (repeat' first | assumption | exact St.Sub.refl _ | exact RowOk.sub (by assumption) (by assumption) | refine St.Sub.trans ?_ (RowOk.sub (by assumption) (by assumption)) | refine St.Sub.add ?_ ?_ _ | refine St.Sub.set ?_ ?_ ?_ _ | refine St.Sub.keep ?_ ?_ | refine St.WF.leave ?_ _ | refine St.WF.add ?_ _ | refine St.WF.set ?_ ?_ _ | refine St.WF.grow ?_ _ _ _ | refine St.WF.keep ?_ ?_ | (first | omega | (simp only [RowOk.lo, nx]; first | done | omega))))⟩
    rw [decide_eq_false]
    · rfl
    · intro e; subst e; exact hl rfl
end Go.Proofs.YtonncfminojejaaGreatDoor

namespace Go.Proofs.YtonncfminojejaaGreatDoor
open Go.RowKit
section
set_option maxRecDepth 200000
set_option maxHeartbeats 8000000
theorem placeH : placeT Tryz.prog 45 = some fun i => some (i * 1, 1) := by kernel_rfl
def hA : H32 := ⟨1 :: List.replicate 31 0, rfl⟩
def hB : H32 := ⟨2 :: List.replicate 31 0, rfl⟩
theorem wnil_eq (k : Nat) : dbin Tryz.prog .eql 30 (.tmp k) (.const .nilIface) (.v .nilIface) (.v .nilIface) = some (True, .v (.bool true)) := by kernel_rfl
end
end Go.Proofs.YtonncfminojejaaGreatDoor

namespace Go.Proofs.YtonncfminojejaaGreatDoor
open Go.RowKit
theorem bin_bneW {x y : Operand} (a b : Bool) : dbin Tryz.prog .neq 4 x y (.v (.bool a)) (.v (.bool b)) = some (True, .v (.bool (a != b))) := by cases a <;> cases b <;> kernel_rfl
section
set_option maxRecDepth 200000
set_option maxHeartbeats 8000000
end
end Go.Proofs.YtonncfminojejaaGreatDoor

namespace Go.Proofs.YtonncfminojejaaGreatDoor
open Go.RowKit
theorem cells_encB (l : List UInt8) : (encB l).cells = [.sl .no (l.map bD)] := rfl
theorem frz_encB (l : List UInt8) : (encB l).frz = encB l := by simp only [encB, D.frz, frz_bB]
theorem ba_toList (l : List UInt8) : (ByteArray.mk l.toArray).toList = l := by simp
section
set_option maxRecDepth 200000
set_option maxHeartbeats 8000000
theorem same23_d (own own2 : Own) (a b : List (List UInt8)) (ha : a.length ≤ 1000000) : DPure Tryz.prog 39 [.sl own (a.map encB), .sl own2 (b.map encB)] (.v (.bool (decide (a = b)))) := by
  refine dpure_of_dwp mixed Tryz.func39 rfl (fun _ _ => by kernel_rfl) (rs := [.tmp 4]) rfl (by kernel_rfl) trivial (fun S hS => ?_)
  by_cases hl : a.length = b.length
  · have b0 : ((a.length : Int) != (b.length : Int)) = false := by simp [hl]
    (simp (disch := first | decide | omega | (simp only [nx]; first | done | omega)) only [go_sem, b0]; (repeat with_reducible refine aI ?_))
    (refine dloop_st (fun t => List.contains [4, 5, 11, 12, 13, 14, 15, 16, 17, 18, 19, 20, 21, 22, 23, 24, 25, 26, 27] t) (by kernel_rfl) ?_ (a.length) (fun i f => i ≤ a.length ∧ f 5 = .v (.int .i64 (i : Nat)) ∧ (∀ j, j < i → a[j]? = b[j]?)) ?_ ?_; (exact (by (repeat' first | assumption | refine St.WF.leave ?_ _ | refine St.WF.add ?_ _ | refine St.WF.set ?_ ?_ _ | refine St.WF.grow ?_ _ _ _ | refine St.WF.keep ?_ ?_ | (first | omega | (simp only [RowOk.lo, nx]; first | done | omega))))); (exact ⟨(by omega), (by (first | (simp (disch := first | decide | omega | (simp only [nx]; first | done | omega)) only [go_sem]; first | done | rfl) | rfl)), (fun j h => by omega)⟩); intro i g tn hn hT hg hI; obtain ⟨le, q5, hs⟩ := hI; have q0 := hg 0 rfl; have q1 := hg 1 rfl; simp (disch := first | decide | omega | (simp only [nx]; first | done | omega)) only [go_sem] at q0 q1; clear hg; have hn' := hn; try simp only [add_next, set_next, grow_next, leave_next, drop_next] at hn')
    by_cases hlt : i < a.length
    · have b1 : decide ((i : Int) < (a.length : Int)) = true := by simp; omega
      have w1 : IntKind.i64.wrap ((i : Int) + 1) = ((i + 1 : Nat) : Int) := IntWalk.i64_in _ ⟨by omega, by omega⟩
      have hlt' : i < b.length := by omega
      (simp (disch := first | decide | omega | (simp only [nx]; first | done | omega)) only [go_sem, q0, q1, q5, b1]; (repeat with_reducible refine aI ?_))
      refine ddraw_mk 11 (by kernel_rfl) ?_
      have ca := cells_encB a[i]
      have cb := cells_encB b[i]
      (simp (disch := first | decide | omega | (simp only [nx]; first | done | omega)) only [go_sem, q0, q1, q5, hlt, hlt', ca, cb, bytesD_map]; (repeat with_reducible refine aI ?_))
      by_cases he : a[i] = b[i]
      · have b2 : (!((ByteArray.mk a[i].toArray).toList == (ByteArray.mk b[i].toArray).toList)) = false := by rw [ba_toList, ba_toList, he]; simp
        (simp (disch := first | decide | omega | (simp only [nx]; first | done | omega)) only [go_sem, b2, q5, w1]; (repeat with_reducible refine aI ?_))
        (refine ⟨by omega, (by (repeat' first | assumption | exact St.Sub.refl _ | exact RowOk.sub (by assumption) (by assumption) | refine St.Sub.trans ?_ (RowOk.sub (by assumption) (by assumption)) | refine St.Sub.add ?_ ?_ _ | refine St.Sub.set ?_ ?_ ?_ _ | refine St.Sub.keep ?_ ?_ | refine St.WF.leave ?_ _ | refine St.WF.add ?_ _ | refine St.WF.set ?_ ?_ _ | refine St.WF.grow ?_ _ _ _ | refine St.WF.keep ?_ ?_ | (first | omega | (simp only [RowOk.lo, nx]; first | done | omega)))), ?_⟩; refine ⟨by omega, ?_, ?_⟩; all_goals (try (first | (simp (disch := first | decide | omega | (simp only [nx]; first | done | omega)) only [go_sem, w1]; first | done | rfl) | rfl)))
        intro j hj
        by_cases e : j = i
        · subst e; rw [List.getElem?_eq_getElem hlt, List.getElem?_eq_getElem hlt', he]
        · exact hs j (by omega)
      · have b2 : (!((ByteArray.mk a[i].toArray).toList == (ByteArray.mk b[i].toArray).toList)) = true := by rw [ba_toList, ba_toList]; simp [he]
        (simp (disch := first | decide | omega | (simp only [nx]; first | done | omega)) only [go_sem, b2]; (repeat with_reducible refine aI ?_))
        refine ⟨?_, (by (repeat' first | assumption | exact St.Sub.refl _ | exact RowOk.sub (by assumption) (by assumption) | refine St.Sub.trans ?_ (RowOk.sub (by assumption) (by assumption)) | refine St.Sub.add ?_ ?_ _ | refine St.Sub.set ?_ ?_ ?_ _ | refine St.Sub.keep ?_ ?_ | refine St.WF.leave ?_ _ | refine St.WF.add ?_ _ | refine St.WF.set ?_ ?_ _ | refine St.WF.grow ?_ _ _ _ | refine St.WF.keep ?_ ?_ | (first | omega | (simp only [RowOk.lo, nx]; first | done | omega))))⟩
        have : a ≠ b := fun h => he (by subst h; rfl)
        simp [D.frz, this]
    · have b1 : decide ((i : Int) < (a.length : Int)) = false := by simp; omega
      (simp (disch := first | decide | omega | (simp only [nx]; first | done | omega)) only [go_sem, q0, q5, b1]; (repeat with_reducible refine aI ?_))
      refine ⟨?_, (by (repeat' first | assumption | exact St.Sub.refl _ | exact RowOk.sub (by assumption) (by assumption) | refine St.Sub.trans ?_ (RowOk.sub (by assumption) (by assumption)) | refine St.Sub.add ?_ ?_ _ | refine St.Sub.set ?_ ?_ ?_ _ | refine St.Sub.keep ?_ ?_ | refine St.WF.leave ?_ _ | refine St.WF.add ?_ _ | refine St.WF.set ?_ ?_ _ | refine St.WF.grow ?_ _ _ _ | refine St.WF.keep ?_ ?_ | (first | omega | (simp only [RowOk.lo, nx]; first | done | omega))))⟩
      have : a = b := List.ext_getElem? fun j => by
        by_cases hj : j < i
        · exact hs j hj
        · rw [List.getElem?_eq_none (by omega), List.getElem?_eq_none (by omega)]
      simp [D.frz, this]
  · have b0 : ((a.length : Int) != (b.length : Int)) = true := by simp; omega
    (simp (disch := first | decide | omega | (simp only [nx]; first | done | omega)) only [go_sem, b0]; (repeat with_reducible refine aI ?_))
    refine ⟨?_, (by (repeat' first | assumption | exact St.Sub.refl _ | exact RowOk.sub (by assumption) (by assumption) | refine St.Sub.trans ?_ (RowOk.sub (by assumption) (by assumption)) | refine St.Sub.add ?_ ?_ _ | refine St.Sub.set ?_ ?_ ?_ _ | refine St.Sub.keep ?_ ?_ | refine St.WF.leave ?_ _ | refine St.WF.add ?_ _ | refine St.WF.set ?_ ?_ _ | refine St.WF.grow ?_ _ _ _ | refine St.WF.keep ?_ ?_ | (first | omega | (simp only [RowOk.lo, nx]; first | done | omega))))⟩
    have : a ≠ b := fun h => hl (by rw [h])
    simp [D.frz, this]
end
end Go.Proofs.YtonncfminojejaaGreatDoor

namespace Go.Proofs.YtonncfminojejaaGreatDoor
open Go.RowKit
section
set_option maxRecDepth 200000
set_option maxHeartbeats 8000000
theorem bin_beqW {x y : Operand} (a b : Bool) : dbin Tryz.prog .eql 4 x y (.v (.bool a)) (.v (.bool b)) = some (True, .v (.bool (a == b))) := by cases a <;> cases b <;> kernel_rfl
end
end Go.Proofs.YtonncfminojejaaGreatDoor
