/- Texts of a proof, part 6. Conditions: none. -/
import Derived.Test.YtonncfminojejaaDoorK5
set_option linter.unusedVariables false
set_option linter.unusedSimpArgs false
namespace Go.Proofs.YtonncfminojejaaDoor
open Go.RowKit
def gsCs (g : DGst) : List D := g.n.1.map bD ++ [.sl .no (g.b.map bD), .sl .no (g.lk.map encH)]
def encG (g : DGst) : D := .agg (gsCs g)
theorem cells_encG (g : DGst) : (encG g).cells = gsCs g := rfl
theorem len_gsCs (g : DGst) : (gsCs g).length = 34 := by simp [gsCs, g.n.2]
theorem width_encG (g : DGst) : (encG g).width = 34 := len_gsCs g
theorem okCell_encG (g : DGst) : (encG g).okCell = true := rfl
theorem take_gsCs (g : DGst) : (gsCs g).take 34 = gsCs g := List.take_of_length_le (by rw [len_gsCs]; omega)
theorem agg_gsCs (g : DGst) : D.agg (gsCs g) = encG g := rfl
theorem name_gsCs (g : DGst) : (gsCs g).take 32 = g.n.1.map bD := by
  rw [gsCs, List.take_append_of_le_length (by rw [len_encH]; omega), take_hash]
theorem b_gsCs (g : DGst) : (gsCs g).getD 32 undefD = .sl .no (g.b.map bD) := by
  rw [gsCs, List.getD_eq_getElem?_getD, List.getElem?_append_right (by rw [len_encH]; omega), len_encH]; rfl
theorem lk_gsCs (g : DGst) : (gsCs g).getD 33 undefD = .sl .no (g.lk.map encH) := by
  rw [gsCs, List.getD_eq_getElem?_getD, List.getElem?_append_right (by rw [len_encH]; omega), len_encH]; rfl
theorem set_gsCs (g : DGst) (lk : List H32) : (gsCs g).take 33 ++ [.sl .no (lk.map encH)] ++ (gsCs g).drop 34 = gsCs ⟨g.n, g.b, lk⟩ := by
  have e : gsCs g = (g.n.1.map bD ++ [.sl .no (g.b.map bD)]) ++ [.sl .no (g.lk.map encH)] := by simp [gsCs]
  have hl : (g.n.1.map bD ++ [D.sl .no (g.b.map bD)]).length = 33 := by rw [List.length_append, len_encH]; rfl
  rw [List.drop_of_length_le (by rw [len_gsCs]; omega), List.append_nil, e, List.take_append_of_le_length (by omega), List.take_of_length_le (by omega)]
  simp [gsCs]
attribute [go_sem] cells_encG len_gsCs width_encG okCell_encG take_gsCs agg_gsCs name_gsCs b_gsCs lk_gsCs
theorem elGs : elT Tryd.prog 55 = some 62 := by kernel_rfl
theorem szGs : szOf Tryd.prog 62 = 34 := by kernel_rfl
theorem byGs : bytesOf Tryd.prog 62 = 80 := by kernel_rfl
theorem zeGs : zeroT Tryd.prog 62 = true := by kernel_rfl
theorem wGs (l : List DGst) : ∀ d ∈ l.map encG, d.width = 34 := fun d hd => by obtain ⟨m, _, rfl⟩ := List.mem_map.1 hd; exact width_encG m
structure RoomAt (k : Nat) (gs : List DGst) (size : Nat) (T : St) : Prop where
  ex : ∃ own, T.ob k = some (.box 57 [.sl own (gs.map encG), .v (.int .i64 ((size : Nat) : Int))]) ∧ (own = .full ∧ gs = [] ∨ ∃ g, own = .row g ∧ T.ob g = some (.row 62 gs.length))
theorem RoomAt.mono {k : Nat} {gs : List DGst} {size : Nat} {S T : St} (h : RoomAt k gs size S) (hs : ∀ j o, S.ob j = some o → T.ob j = some o) : RoomAt k gs size T := by
  obtain ⟨own, h1, h2⟩ := h.ex
  refine ⟨own, hs _ _ h1, ?_⟩
  rcases h2 with h2 | ⟨g, h3, h4⟩
  · exact .inl h2
  · exact .inr ⟨g, h3, hs _ _ h4⟩
section
set_option maxRecDepth 200000
set_option maxHeartbeats 4000000
theorem ixGuest_at {S : St} {own : Own} {l : List DGst} {g : FuncId} {fs cs : List D} (p : DGst → Bool) (hl : l.length ≤ 1000000) (hc : ∀ x ∈ l, DSt Tryd.prog g (fs ++ [encG x] ++ cs) S (.v (.bool (p x)))) : DAt Tryd.prog 46 [.sl own (l.map encG), .fn (.func g) fs cs] S (.v (.int .i64 (ixOf p l))) := by
  refine dat_of_dwpL mixed Tryd.func46 rfl (fun _ _ => by kernel_rfl) (rs := [.tmp 4]) rfl (by kernel_rfl) (by trivial) (fun hS => ?_)
  (simp (disch := first | decide | omega | (simp only [nx]; first | done | omega)) only [go_sem]; (repeat with_reducible refine aI ?_))
  (refine dloop_st (fun t => List.contains [4, 5, 8, 9, 10, 11, 12, 13, 14, 15, 16, 17, 18] t) (by kernel_rfl) ?_ (l.length) (fun i f => i ≤ l.length ∧ f 8 = .v (.int .i64 (i : Nat)) ∧ (∀ j (h : j < l.length), j < i → p l[j] = false)) ?_ ?_; (exact (by (repeat' first | assumption | refine St.WF.leave ?_ _ | refine St.WF.add ?_ _ | refine St.WF.set ?_ ?_ _ | refine St.WF.grow ?_ _ _ _ | refine St.WF.keep ?_ ?_ | (first | omega | (simp only [RowOk.lo, nx]; first | done | omega))))); (exact ⟨(by omega), (by (first | (simp (disch := first | decide | omega | (simp only [nx]; first | done | omega)) only [go_sem]; first | done | rfl) | rfl)), (fun j _ h => absurd h (by omega))⟩); intro i g tn hn hT hg hI; obtain ⟨le, q8, hs⟩ := hI; have q0 := hg 0 rfl; have q1 := hg 1 rfl; have q7 := hg 7 rfl; simp (disch := first | decide | omega | (simp only [nx]; first | done | omega)) only [go_sem] at q0 q1 q7; clear hg; have hn' := hn; try simp only [add_next, set_next, grow_next, leave_next, drop_next] at hn')
  by_cases hlt : i < l.length
  · have b1 : decide ((i : Int) < (l.length : Int)) = true := decide_eq_true (by omega)
    have w1 : IntKind.i64.wrap ((i : Int) + 1) = ((i + 1 : Nat) : Int) := IntWalk.i64_in _ ⟨by omega, by omega⟩
    (simp (disch := first | decide | omega | (simp only [nx]; first | done | omega)) only [go_sem, q0, q1, q7, q8, b1, hlt]; (repeat with_reducible refine aI ?_))
    refine go_at (hc l[i] (List.getElem_mem _) ⟨tn, S.ob⟩ hn (fun _ _ h => h)) ?_
    cases hp : p l[i] with
    | false =>
      (simp (disch := first | decide | omega | (simp only [nx]; first | done | omega)) only [go_sem, q8, w1]; (repeat with_reducible refine aI ?_))
      refine ⟨by omega, ⟨hn, fun _ _ h => h⟩, by omega, ?_, fun j hj hji => ?_⟩
      · (first | (simp (disch := first | decide | omega | (simp only [nx]; first | done | omega)) only [go_sem, w1]; first | done | rfl) | rfl)
      · by_cases e : j = i
        · subst e; exact hp
        · exact hs j hj (by omega)
    | true =>
      (simp (disch := first | decide | omega | (simp only [nx]; first | done | omega)) only [go_sem]; (repeat with_reducible refine aI ?_))
      refine ⟨?_, ⟨hn, fun _ _ h => h⟩⟩
      rw [ixOf_at hlt hp hs]
      rfl
  · have b1 : decide ((i : Int) < (l.length : Int)) = false := decide_eq_false (by omega)
    (simp (disch := first | decide | omega | (simp only [nx]; first | done | omega)) only [go_sem, q7, q8, b1]; (repeat with_reducible refine aI ?_))
    refine ⟨?_, ⟨hn, fun _ _ h => h⟩⟩
    rw [ixOf_none fun j hj => hs j hj (by omega)]
    rfl
theorem anyGuest_at {S : St} {own : Own} {l : List DGst} {g : FuncId} {fs cs : List D} (p : DGst → Bool) (hl : l.length ≤ 1000000) (hc : ∀ x ∈ l, DSt Tryd.prog g (fs ++ [encG x] ++ cs) S (.v (.bool (p x)))) : DAt Tryd.prog 30 [.sl own (l.map encG), .fn (.func g) fs cs] S (.v (.bool (l.any p))) := by
  refine dat_of_dwpL mixed Tryd.func30 rfl (fun _ _ => by kernel_rfl) (rs := [.tmp 4]) rfl (by kernel_rfl) (by trivial) (fun hS => ?_)
  (simp (disch := first | decide | omega | (simp only [nx]; first | done | omega)) only [go_sem]; (repeat with_reducible refine aI ?_))
  refine go_at (ixGuest_at p hl hc) ?_
  (simp (disch := first | decide | omega | (simp only [nx]; first | done | omega)) only [go_sem, ixOf_any]; (repeat with_reducible refine aI ?_))
  refine ⟨?_, (by (repeat' first | assumption | exact St.Sub.refl _ | exact RowOk.sub (by assumption) (by assumption) | refine St.Sub.trans ?_ (RowOk.sub (by assumption) (by assumption)) | refine St.Sub.add ?_ ?_ _ | refine St.Sub.set ?_ ?_ ?_ _ | refine St.Sub.keep ?_ ?_ | refine St.WF.leave ?_ _ | refine St.WF.add ?_ _ | refine St.WF.set ?_ ?_ _ | refine St.WF.grow ?_ _ _ _ | refine St.WF.keep ?_ ?_ | (first | omega | (simp only [RowOk.lo, nx]; first | done | omega))))⟩
  rfl
theorem all_at {T : St} {k : Nat} {own : Own} {gs : List DGst} {x : D} (h : T.ob k = some (.box 57 [.sl own (gs.map encG), x])) : DCalls Tryd.prog 27 [.loc k 0] T fun d T' => d = .sl own (gs.map encG) ∧ T' = T := by
  refine dcalls_inline mixed Tryd.func27 rfl (fun _ _ => by kernel_rfl) (rs := [.tmp 2]) rfl (by kernel_rfl) (fun hS => ?_)
  (simp (disch := first | decide | omega | (simp only [nx]; first | done | omega)) only [go_sem, h]; (repeat with_reducible refine aI ?_))
theorem has1_at {T : St} {kh : Nat} {h : H32} (hk : T.ob kh = some (.box 37 (h.1.map bD))) (g : DGst) : DAt Tryd.prog 31 [encG g, .loc kh 0] T (.v (.bool (decide (g.n = h)))) := by
  refine dat_of_dwpL mixed Tryd.func31 rfl (fun _ _ => by kernel_rfl) (rs := [.tmp 3]) rfl (by kernel_rfl) (by trivial) (fun hS => ?_)
  have lh := h.2
  have hkl := hS.lt hk
  (simp (disch := first | decide | omega | (simp only [nx]; first | done | omega)) only [go_sem, hk, lh]; (repeat with_reducible refine aI ?_))
  refine ⟨?_, (by (repeat' first | assumption | exact St.Sub.refl _ | exact RowOk.sub (by assumption) (by assumption) | refine St.Sub.trans ?_ (RowOk.sub (by assumption) (by assumption)) | refine St.Sub.add ?_ ?_ _ | refine St.Sub.set ?_ ?_ ?_ _ | refine St.Sub.keep ?_ ?_ | refine St.WF.leave ?_ _ | refine St.WF.add ?_ _ | refine St.WF.set ?_ ?_ _ | refine St.WF.grow ?_ _ _ _ | refine St.WF.keep ?_ ?_ | (first | omega | (simp only [RowOk.lo, nx]; first | done | omega))))⟩
  rfl
theorem has_at {T : St} {k : Nat} {gs : List DGst} {size : Nat} (hr : RoomAt k gs size T) (hl : gs.length ≤ 1000000) (h : H32) : DAt Tryd.prog 12 [.loc k 0, encH h] T (.v (.bool (hasG gs h))) := by
  refine dat_of_dwpL mixed Tryd.func12 rfl (fun _ _ => by kernel_rfl) (rs := [.tmp 4]) rfl (by kernel_rfl) (by trivial) (fun hS => ?_)
  obtain ⟨own, h1, _⟩ := hr.ex
  have hkl := hS.lt h1
  (simp (disch := first | decide | omega | (simp only [nx]; first | done | omega)) only [go_sem]; (repeat with_reducible refine aI ?_))
  refine (all_at (x := .v (.int .i64 ((size : Nat) : Int))) (own := own) (gs := gs) (T := T.add (.box 37 (h.1.map bD))) (by (first | (simp (disch := first | decide | omega | (simp only [nx]; first | done | omega)) only [go_sem, h1]; first | done | rfl) | rfl))).mono ?_
  rintro d T' ⟨rfl, rfl⟩
  (simp (disch := first | decide | omega | (simp only [nx]; first | done | omega)) only [go_sem]; (repeat with_reducible refine aI ?_))
  refine go_at (anyGuest_at (fun g => decide (g.n = h)) hl fun x _ U hU hob => ?_) ?_
  · exact has1_at (hob _ _ (by (first | (simp (disch := first | decide | omega | (simp only [nx]; first | done | omega)) only [go_sem]; first | done | rfl) | rfl))) x
  (simp (disch := first | decide | omega | (simp only [nx]; first | done | omega)) only [go_sem]; (repeat with_reducible refine aI ?_))
  refine ⟨?_, (by (repeat' first | assumption | exact St.Sub.refl _ | exact RowOk.sub (by assumption) (by assumption) | refine St.Sub.trans ?_ (RowOk.sub (by assumption) (by assumption)) | refine St.Sub.add ?_ ?_ _ | refine St.Sub.set ?_ ?_ ?_ _ | refine St.Sub.keep ?_ ?_ | refine St.WF.leave ?_ _ | refine St.WF.add ?_ _ | refine St.WF.set ?_ ?_ _ | refine St.WF.grow ?_ _ _ _ | refine St.WF.keep ?_ ?_ | (first | omega | (simp only [RowOk.lo, nx]; first | done | omega))))⟩
  rfl
theorem len_at {T : St} {k : Nat} {gs : List DGst} {size : Nat} (hr : RoomAt k gs size T) : DAt Tryd.prog 10 [.loc k 0] T (.v (.int .i64 (gs.length : Int))) := by
  refine dat_of_dwpL mixed Tryd.func10 rfl (fun _ _ => by kernel_rfl) (rs := [.tmp 2]) rfl (by kernel_rfl) (by trivial) (fun hS => ?_)
  obtain ⟨own, h1, _⟩ := hr.ex
  have hkl := hS.lt h1
  (simp (disch := first | decide | omega | (simp only [nx]; first | done | omega)) only [go_sem]; (repeat with_reducible refine aI ?_))
  refine (all_at (x := .v (.int .i64 ((size : Nat) : Int))) (own := own) (gs := gs) h1).mono ?_
  rintro d T' ⟨rfl, rfl⟩
  (simp (disch := first | decide | omega | (simp only [nx]; first | done | omega)) only [go_sem]; (repeat with_reducible refine aI ?_))
  refine ⟨?_, (by (repeat' first | assumption | exact St.Sub.refl _ | exact RowOk.sub (by assumption) (by assumption) | refine St.Sub.trans ?_ (RowOk.sub (by assumption) (by assumption)) | refine St.Sub.add ?_ ?_ _ | refine St.Sub.set ?_ ?_ ?_ _ | refine St.Sub.keep ?_ ?_ | refine St.WF.leave ?_ _ | refine St.WF.add ?_ _ | refine St.WF.set ?_ ?_ _ | refine St.WF.grow ?_ _ _ _ | refine St.WF.keep ?_ ?_ | (first | omega | (simp only [RowOk.lo, nx]; first | done | omega))))⟩
  rfl
end
end Go.Proofs.YtonncfminojejaaDoor

namespace Go.Proofs.YtonncfminojejaaDoor
open Go.RowKit
theorem dat_ownH {g : FuncId} {args : List D} {S : St} {l : List H32} (h : S.WF → DCalls Tryd.prog g args S fun d T => ∃ k c zs, d = .win k 0 l.length c ∧ S.next ≤ k ∧ OwnH T k c zs l ∧ S.Sub T) : DAt Tryd.prog g args S (.sl .no (l.map encH)) := fun base η w vs hM hr =>
  calls_fin ((h hM.fresh).mono fun d T ⟨k, c, zs, e, hk, ho, hs⟩ => ⟨T.drop k, .sl .no (l.map encH), by
    subst e
    refine thawH ho ?_
    simp only [D.thaw, List.length_map, Nat.beq_refl, Bool.and_self, cond_true], fin_same hM.fresh (closed_Hs l) ⟨hs.next, fun j o hj => by
    have := St.WF.lt (S := S) hM.fresh hj
    simp only [St.drop]
    rw [if_neg (by omega)]
    exact hs.ob j o hj⟩⟩) base η w vs hM hr
theorem lacks_succ {gs : List DGst} {i : Nat} (h : i < gs.length) : (gs.take (i + 1)).flatMap (·.lk) = (gs.take i).flatMap (·.lk) ++ gs[i].lk := by
  rw [List.take_succ_eq_append_getElem h, List.flatMap_append]
  simp
theorem lacks_le (gs : List DGst) (i : Nat) : ((gs.take i).flatMap (·.lk)).length ≤ (gs.flatMap (·.lk)).length := by
  conv => rhs; rw [← List.take_append_drop i gs, List.flatMap_append, List.length_append]
  omega
section
set_option maxRecDepth 200000
set_option maxHeartbeats 4000000
theorem missing_at {T : St} {k : Nat} {gs : List DGst} {size : Nat} (hrm : RoomAt k gs size T) (hl : gs.length ≤ 1000000) (hll : (gs.flatMap (·.lk)).length ≤ 1000000) : DAt Tryd.prog 11 [.loc k 0] T (.sl .no ((missG gs).map encH)) := by
  refine dat_ownH fun hT0 => ?_
  obtain ⟨own, h1, _⟩ := hrm.ex
  have hkl := hT0.lt h1
  refine dcalls_inline mixed Tryd.func11 rfl (fun _ _ => by kernel_rfl) (rs := [.tmp 2]) rfl (by kernel_rfl) (fun hS => ?_)
  (simp (disch := first | decide | omega | (simp only [nx]; first | done | omega)) only [go_sem]; (repeat with_reducible refine aI ?_))
  refine (all_at (x := .v (.int .i64 ((size : Nat) : Int))) (own := own) (gs := gs) h1).mono ?_
  rintro d T' ⟨rfl, rfl⟩
  (simp (disch := first | decide | omega | (simp only [nx]; first | done | omega)) only [go_sem]; (repeat with_reducible refine aI ?_))
  (refine dloop_row (fun t => List.contains [3, 5, 9, 10, 11, 12, 13, 14, 15, 16, 17] t) (by kernel_rfl) ?_ (gs.length) (37) (fun i own m f => i ≤ gs.length ∧ f 9 = .v (.int .i64 (i : Nat)) ∧ f 3 = .sl own (((gs.take i).flatMap (·.lk)).map encH) ∧ (own = .full ∨ m = ((gs.take i).flatMap (·.lk)).length)) ?_ ?_; (exact (by (repeat' first | assumption | refine St.WF.leave ?_ _ | refine St.WF.add ?_ _ | refine St.WF.set ?_ ?_ _ | refine St.WF.grow ?_ _ _ _ | refine St.WF.keep ?_ ?_ | (first | omega | (simp only [RowOk.lo, nx]; first | done | omega))))); (exact ⟨(by omega), (by (first | (simp (disch := first | decide | omega | (simp only [nx]; first | done | omega)) only [go_sem]; first | done | rfl) | rfl)), (by (first | (simp (disch := first | decide | omega | (simp only [nx]; first | done | omega)) only [go_sem]; first | done | rfl) | rfl)), (.inl rfl)⟩); intro i g tn own m hn hr hT hg hI; obtain ⟨le, q9, q3, hm⟩ := hI; have q0 := hg 0 rfl; have q2 := hg 2 rfl; have q7 := hg 7 rfl; have q8 := hg 8 rfl; simp (disch := first | decide | omega | (simp only [nx]; first | done | omega)) only [go_sem] at q0 q2 q7 q8; clear hg; have hn' := hn; try simp only [add_next, set_next, grow_next, leave_next, drop_next] at hn')
  have hle := lacks_le gs i
  by_cases hlt : i < gs.length
  · have b1 : decide ((i : Int) < (gs.length : Int)) = true := decide_eq_true (by omega)
    have w1 : IntKind.i64.wrap ((i : Int) + 1) = ((i + 1 : Nat) : Int) := IntWalk.i64_in _ ⟨by omega, by omega⟩
    have hro := fun {e m k} => rowOf_lt hr (e := e) (m := m) (k := k)
    have hle2 := lacks_le gs (i + 1)
    rw [lacks_succ hlt, List.length_append] at hle2
    (simp (disch := first | decide | omega | (simp only [nx]; first | done | omega)) only [go_sem, q0, q3, q7, q8, q9, b1, hlt, hro]; (repeat with_reducible refine aI ?_))
    (refine dapp_grow (by (first | (simp (disch := first | decide | omega | (simp only [nx]; first | done | omega)) only [go_sem]; first | done | rfl) | rfl)) (by (first | (simp (disch := first | decide | omega | (simp only [nx]; first | done | omega)) only [go_sem]; first | done | rfl) | rfl)) (by (first | (simp (disch := first | decide | omega | (simp only [nx]; first | done | omega)) only [go_sem]; first | done | rfl) | rfl)) (fun d hd => ?_) (fun d hd => ?_) hr (by (repeat' first | assumption | exact St.Sub.refl _ | exact RowOk.sub (by assumption) (by assumption) | refine St.Sub.trans ?_ (RowOk.sub (by assumption) (by assumption)) | refine St.Sub.add ?_ ?_ _ | refine St.Sub.set ?_ ?_ ?_ _ | refine St.Sub.keep ?_ ?_ | refine St.WF.leave ?_ _ | refine St.WF.add ?_ _ | refine St.WF.set ?_ ?_ _ | refine St.WF.grow ?_ _ _ _ | refine St.WF.keep ?_ ?_ | (first | omega | (simp only [RowOk.lo, nx]; first | done | omega)))) ?_ ?_ ?_ ?_; (exact (by first | (simp (disch := first | decide | omega | (simp only [nx]; first | done | omega)) only [go_sem]; done) | (simp (disch := first | decide | omega | (simp only [nx]; first | done | omega)) only [go_sem]; exact (by obtain ⟨q, _, rfl⟩ := List.mem_map.1 hd; exact width_encH q)))); (exact (by first | (simp (disch := first | decide | omega | (simp only [nx]; first | done | omega)) only [go_sem]; done) | (simp (disch := first | decide | omega | (simp only [nx]; first | done | omega)) only [go_sem]; exact (by obtain ⟨q, _, rfl⟩ := List.mem_map.1 hd; exact width_encH q)))); (exact (by rw [List.length_map]; exact hm)))
    · simp only [List.length_map]; omega
    · simp (disch := first | decide | omega | (simp only [nx]; first | done | omega)) only [go_sem]; omega
    (simp (disch := first | decide | omega | (simp only [nx]; first | done | omega)) only [go_sem, q0, q3, q7, q8, q9, w1]; (repeat with_reducible refine aI ?_))
    (refine ⟨by omega, _, _, RowNext.grow (m := m) ?_ ?_ hr hn ?_ (St.Sub.refl _), ?_⟩; (exact (by (repeat' first | assumption | refine St.WF.leave ?_ _ | refine St.WF.add ?_ _ | refine St.WF.set ?_ ?_ _ | refine St.WF.grow ?_ _ _ _ | refine St.WF.keep ?_ ?_ | (first | omega | (simp only [RowOk.lo, nx]; first | done | omega))))); (exact (by (first | omega | (simp only [RowOk.lo, nx]; first | done | omega)))); (exact (by (repeat' first | assumption | exact St.Sub.refl _ | exact RowOk.sub (by assumption) (by assumption) | refine St.Sub.trans ?_ (RowOk.sub (by assumption) (by assumption)) | refine St.Sub.add ?_ ?_ _ | refine St.Sub.set ?_ ?_ ?_ _ | refine St.Sub.keep ?_ ?_ | refine St.WF.leave ?_ _ | refine St.WF.add ?_ _ | refine St.WF.set ?_ ?_ _ | refine St.WF.grow ?_ _ _ _ | refine St.WF.keep ?_ ?_ | (first | omega | (simp only [RowOk.lo, nx]; first | done | omega))))); refine ⟨by omega, ?_, ?_, ?_⟩; all_goals (try (first | (simp (disch := first | decide | omega | (simp only [nx]; first | done | omega)) only [go_sem, w1]; first | done | rfl) | rfl)))
    · rw [lacks_succ hlt, List.map_append]; rfl
    · exact .inr (by rw [lacks_succ hlt, List.length_append])
  · have b1 : decide ((i : Int) < (gs.length : Int)) = false := decide_eq_false (by omega)
    have hrb : rowOf T' own 37 m k = T'.ob k := rowOf_lt hr hkl
    have hie : gs.take i = gs := List.take_of_length_le (by omega)
    rw [hie] at q3
    have hsub := RowOk.sub (e := 37) (m := m) hr hn
    (simp (disch := first | decide | omega | (simp only [nx]; first | done | omega)) only [go_sem, q0, q3, q8, q9, b1]; (repeat with_reducible refine aI ?_))
    refine DCalls.mono (hsort_w own (gs.flatMap (·.lk)) hll) ?_
    rintro d U ⟨k0, c, zs, rfl, hk0, hoU, hsU⟩
    (simp (disch := first | decide | omega | (simp only [nx]; first | done | omega)) only [go_sem, q0]; (repeat with_reducible refine aI ?_))
    have hkeep : ∀ j o, T'.ob j = some o → U.ob j = some o ∧ j ≠ k0 := fun j o e => by
      have h2 := hsub.ob j o e
      have hj := (show (St.mk tn (rowOf T' own 37 m)).WF from hT).lt h2
      have hj' : j < tn := hj
      have hk0' : tn ≤ k0 := hk0
      exact ⟨hsU.ob j o h2, by omega⟩
    have key := deleteH_w (S := U) (k := k0) (c := c) (zs := zs) (l := sortH (gs.flatMap (·.lk))) (g := 12) (fs := [.loc k 0]) (hasG gs) hoU (Nat.le_trans (sortH_len _) hll) fun x V hV hVw hVo => by
      have hrV : RoomAt k gs size V := hrm.mono fun j o e => hVo j o (hkeep j o e).2 (hkeep j o e).1
      exact has_at hrV hl x
    refine DCalls.mono key ?_
    rintro d V ⟨zs', rfl, hoV, hnV, hfV⟩
    (simp (disch := first | decide | omega | (simp only [nx]; first | done | omega)) only [go_sem]; (repeat with_reducible refine aI ?_))
    exact ⟨k0, c, zs', rfl, by have : tn ≤ k0 := hk0; omega, hoV, ⟨by have := hsU.next; have : tn ≤ U.next := this; omega, fun j o e => hfV j o (hkeep j o e).2 (hkeep j o e).1⟩⟩
theorem ixH_d (own : Own) (l : List H32) (h : H32) (hl : l.length ≤ 1000000) : DPure Tryd.prog 34 [.sl own (l.map encH), encH h] (.v (.int .i64 (ixOf (fun x => decide (h = x)) l))) := by
  refine dpure_of_dwp mixed Tryd.func34 rfl (fun _ _ => by kernel_rfl) (rs := [.tmp 4]) rfl (by kernel_rfl) trivial (fun S hS => ?_)
  (simp (disch := first | decide | omega | (simp only [nx]; first | done | omega)) only [go_sem]; (repeat with_reducible refine aI ?_))
  have lh := h.2
  (refine dloop_st (fun t => List.contains [4, 5, 8, 9, 10, 11, 12, 13, 14, 15, 16, 17, 18] t) (by kernel_rfl) ?_ (l.length) (fun i f => i ≤ l.length ∧ f 8 = .v (.int .i64 (i : Nat)) ∧ (∀ j (h' : j < l.length), j < i → decide (h = l[j]) = false)) ?_ ?_; (exact (by (repeat' first | assumption | refine St.WF.leave ?_ _ | refine St.WF.add ?_ _ | refine St.WF.set ?_ ?_ _ | refine St.WF.grow ?_ _ _ _ | refine St.WF.keep ?_ ?_ | (first | omega | (simp only [RowOk.lo, nx]; first | done | omega))))); (exact ⟨(by omega), (by (first | (simp (disch := first | decide | omega | (simp only [nx]; first | done | omega)) only [go_sem]; first | done | rfl) | rfl)), (fun j _ h => absurd h (by omega))⟩); intro i g tn hn hT hg hI; obtain ⟨le, q8, hs⟩ := hI; have q0 := hg 0 rfl; have q3 := hg 3 rfl; have q7 := hg 7 rfl; simp (disch := first | decide | omega | (simp only [nx]; first | done | omega)) only [go_sem] at q0 q3 q7; clear hg; have hn' := hn; try simp only [add_next, set_next, grow_next, leave_next, drop_next] at hn')
  have hob : (⟨tn, (S.add (.box 37 (h.1.map bD))).ob⟩ : St).ob S.next = some (.box 37 (h.1.map bD)) := by (first | (simp (disch := first | decide | omega | (simp only [nx]; first | done | omega)) only [go_sem]; first | done | rfl) | rfl)
  by_cases hlt : i < l.length
  · have b1 : decide ((i : Int) < (l.length : Int)) = true := decide_eq_true (by omega)
    have w1 : IntKind.i64.wrap ((i : Int) + 1) = ((i + 1 : Nat) : Int) := IntWalk.i64_in _ ⟨by omega, by omega⟩
    have la := l[i].2
    (simp (disch := first | decide | omega | (simp only [nx]; first | done | omega)) only [go_sem, q0, q3, q7, q8, b1, hlt]; (repeat with_reducible refine aI ?_))
    refine ddraw_mk 6 (by kernel_rfl) ?_
    (simp (disch := first | decide | omega | (simp only [nx]; first | done | omega)) only [go_sem, q0, q3, q7, q8, b1, hlt, la, lh]; (repeat with_reducible refine aI ?_))
    cases hp : decide (h = l[i]) with
    | false =>
      (simp (disch := first | decide | omega | (simp only [nx]; first | done | omega)) only [go_sem, q8, w1]; (repeat with_reducible refine aI ?_))
      refine ⟨by omega, ⟨hn, fun _ _ h => h⟩, by omega, ?_, fun j hj hji => ?_⟩
      · (first | (simp (disch := first | decide | omega | (simp only [nx]; first | done | omega)) only [go_sem, w1]; first | done | rfl) | rfl)
      · by_cases e : j = i
        · subst e; exact hp
        · exact hs j hj (by omega)
    | true =>
      (simp (disch := first | decide | omega | (simp only [nx]; first | done | omega)) only [go_sem]; (repeat with_reducible refine aI ?_))
      refine ⟨?_, (by (repeat' first | assumption | exact St.Sub.refl _ | exact RowOk.sub (by assumption) (by assumption) | refine St.Sub.trans ?_ (RowOk.sub (by assumption) (by assumption)) | refine St.Sub.add ?_ ?_ _ | refine St.Sub.set ?_ ?_ ?_ _ | refine St.Sub.keep ?_ ?_ | refine St.WF.leave ?_ _ | refine St.WF.add ?_ _ | refine St.WF.set ?_ ?_ _ | refine St.WF.grow ?_ _ _ _ | refine St.WF.keep ?_ ?_ | (first | omega | (simp only [RowOk.lo, nx]; first | done | omega))))⟩
      rw [ixOf_at hlt hp hs]
      rfl
  · have b1 : decide ((i : Int) < (l.length : Int)) = false := decide_eq_false (by omega)
    (simp (disch := first | decide | omega | (simp only [nx]; first | done | omega)) only [go_sem, q7, q8, b1]; (repeat with_reducible refine aI ?_))
    refine ⟨?_, (by (repeat' first | assumption | exact St.Sub.refl _ | exact RowOk.sub (by assumption) (by assumption) | refine St.Sub.trans ?_ (RowOk.sub (by assumption) (by assumption)) | refine St.Sub.add ?_ ?_ _ | refine St.Sub.set ?_ ?_ ?_ _ | refine St.Sub.keep ?_ ?_ | refine St.WF.leave ?_ _ | refine St.WF.add ?_ _ | refine St.WF.set ?_ ?_ _ | refine St.WF.grow ?_ _ _ _ | refine St.WF.keep ?_ ?_ | (first | omega | (simp only [RowOk.lo, nx]; first | done | omega))))⟩
    rw [ixOf_none fun j hj => hs j hj (by omega)]
    rfl
theorem dcalls_nilwin {P : Program} {g : FuncId} {args : List D} {S : St} {K : D → St → Prop} (e : TypeId) (h : DCalls P g (.win S.next 0 0 0 :: args) (S.add (.row e 0)) K) : DCalls P g (.sl .full [] :: args) S K := fun base η w vs hM hr => by
  simp only [RepL] at hr
  obtain ⟨x, xs, rfl, hx, hxs⟩ := hr
  obtain ⟨η', G, hx'⟩ := thaw_nil e base η w x hM hx
  have hr' : RepL P w η' (Fix P (S.add (.row e 0)) η') (.win S.next 0 0 0 :: args) (x :: xs) := by
    simp only [RepL]
    exact ⟨x, xs, rfl, hx', G.repL hxs⟩
  rcases h base η' w _ G.mem hr' with ⟨h1, h2⟩ | ⟨d, S', η2, v, w', h1, h2, h3, h4⟩
  · exact .inl ⟨h1, h2.mono fun _ _ ⟨d, S', η2, v, k1, k2, k3, k4⟩ => ⟨d, S', η2, v, k1, k2, k3, G.trans k4⟩⟩
  · exact .inr ⟨d, S', η2, v, w', h1, h2, h3, G.trans h4⟩
structure GrH (S T : St) (out : List H32) (d : D) : Prop where
  own : OwnD Tryd.prog T 37 (out.map encH) d
  lo : ∀ k o n c, d = .win k o n c → S.next ≤ k
  sub : S.Sub T
theorem grH_app {S T : St} {out b : List H32} {d : D} {o2 : Own} {K : D → St → Prop} (hS : S.WF) (h : GrH S T out d) (hl : out.length + b.length ≤ 2000000)
    (k : ∀ (c' : Nat) (zs' : List D), GrH S ((T.left d).add (ownOb 37 ((out ++ b).map encH) zs' c')) (out ++ b) (.win T.next 0 (out.length + b.length) c') → (T.left d).next = T.next → K (.win T.next 0 (out.length + b.length) c') ((T.left d).add (ownOb 37 ((out ++ b).map encH) zs' c'))) :
    dapp Tryd.prog T 39 39 39 d (.sl o2 (b.map encH)) K := by
  refine dapp_ownD elHs (by rw [elHs]; rfl) zeHs zoHs h.own (by rw [szHs]; exact wHs out) (es2 := b.map encH) (by rw [szHs]; exact wHs b) (by rw [List.length_map, List.length_map]; omega) (by rw [List.length_map, List.length_map, byHs]; omega) fun c' zs' h1 => ?_
  have e : out.map encH ++ b.map encH = (out ++ b).map encH := by simp
  rw [e] at h1 ⊢
  have hsub := OwnD.sub hS h.sub h.own h.lo
  rw [List.length_map, List.length_map]
  refine k c' zs' ⟨.inr ⟨T.next, c', zs', by rw [List.length_map, List.length_append], ?_, h1, ?_⟩, fun k o n c hk => ?_, ?_⟩ (left_next T d)
  · show (if T.next = (T.left d).next then _ else _) = _
    rw [left_next, if_pos rfl]
  · show T.next < (T.left d).next + 1
    rw [left_next]; omega
  · injection hk with hk
    rw [← hk]
    exact h.sub.next
  · exact hsub.add hS _
theorem grow_w {S : St} (hS0 : S.WF) (n : Nat) (hn : n ≤ 1000000) : DCalls Tryd.prog 47 [.sl .full [], .v (.int .i64 (n : Int))] S fun d T => GrH S T [] d := by
  rcases Nat.eq_zero_or_pos n with h0 | h0
  · subst h0
    refine dcalls_inline mixed Tryd.func47 rfl (fun _ _ => by kernel_rfl) (rs := [.tmp 4]) rfl (by kernel_rfl) (fun hS => ?_)
    have b1 : decide ((((0 : Nat) : Int)) < 0) = false := by decide
    have b2 : decide ((0 : Int) < 0) = false := by decide
    have w1 : IntKind.i64.wrap ((0 : Int) - 0) = 0 := by decide
    have lz : (([] : List D).length : Int) = 0 := rfl
    (simp (disch := first | decide | omega | (simp only [nx]; first | done | omega)) only [go_sem, b1, b2, w1, lz, int_zero]; (repeat with_reducible refine aI ?_))
    exact ⟨.inl ⟨rfl, rfl⟩, (fun k o n c e => by cases e), St.Sub.refl S⟩
  · refine dcalls_nilwin 37 ?_
    refine dcalls_inline mixed Tryd.func47 rfl (fun _ _ => by kernel_rfl) (rs := [.tmp 4]) rfl (by kernel_rfl) (fun hS => ?_)
    have b1 : decide ((n : Int) < 0) = false := decide_eq_false (by omega)
    have b2 : decide ((0 : Int) < (n : Int)) = true := decide_eq_true (by omega)
    have w0 : IntKind.i64.wrap ((0 : Int) - 0) = 0 := by decide
    have w1 : IntKind.i64.wrap ((n : Int) - 0) = (n : Int) := by rw [IntKind.wrap_i64]; omega
    (simp (disch := first | decide | omega | (simp only [nx]; first | done | omega)) only [go_sem, b1, b2, w0, w1, int_zero]; (repeat with_reducible refine aI ?_))
    refine dappend_zeros elHs (kk := .i64) (by kernel_rfl) zeHs zoHs (n := 0) (c := 0) (olds := []) ⟨rfl, .inl ⟨rfl, rfl⟩⟩ (by omega) (by omega) (by omega) (by rw [byHs]; omega) fun c' zs h1 h2 => ?_
    (simp (disch := first | decide | omega | (simp only [nx]; first | done | omega)) only [go_sem, winOff_zero]; (repeat with_reducible refine aI ?_))
    have hc' : 0 < c' := by omega
    refine ⟨.inr ⟨S.next + 1, c', zs, rfl, ?_, by rw [szHs] at h2 ⊢; exact h2, ?_⟩, (fun k o n c e => by injection e with e; omega), ?_⟩
    · rw [ownOb_box hc']
      show (if S.next + 1 = S.next + 1 then _ else _) = _
      rw [if_pos rfl]
      rfl
    · show S.next + 1 < S.next + 1 + 1
      omega
    · have hS1 : S.Sub (S.add (.row 37 0)) := (St.Sub.refl S).add hS0 _
      exact hS1.add hS0 _
theorem concat_d (own o1 o2 : Own) (a b : List H32) (hl : a.length + b.length ≤ 1000000) : DPure Tryd.prog 35 [.sl own [.sl o1 (a.map encH), .sl o2 (b.map encH)]] (.sl .no ((a ++ b).map encH)) := dpure_ownH fun S hS0 => by
  refine DCalls.thaw ?_
  refine dcalls_inline mixed Tryd.func35 rfl (fun _ _ => by kernel_rfl) (rs := [.tmp 2]) rfl (by kernel_rfl) (fun hS => ?_)
  have l1 : ([.sl o1 (a.map encH), .sl o2 (b.map encH)] : List D).length = 2 := rfl
  (simp (disch := first | decide | omega | (simp only [nx]; first | done | omega)) only [go_sem, l1]; (repeat with_reducible refine aI ?_))
  refine dloop_fuel 3 hS (by kernel_rfl) ?_
  rw [loopN_eq]
  have w1 : IntKind.i64.wrap ((0 : Int) + 1) = 1 := by decide
  have w2 : IntKind.i64.wrap ((1 : Int) + 1) = 2 := by decide
  have w3 : IntKind.i64.wrap ((0 : Int) + (a.length : Int)) = (a.length : Int) := by rw [IntKind.wrap_i64]; omega
  have w4 : IntKind.i64.wrap ((a.length : Int) + (b.length : Int)) = ((a.length + b.length : Nat) : Int) := by rw [IntKind.wrap_i64]; omega
  have c1 : decide ((0 : Int) < ((2 : Nat) : Int)) = true := by decide
  have c2 : decide ((1 : Int) < ((2 : Nat) : Int)) = true := by decide
  have c3 : decide ((2 : Int) < ((2 : Nat) : Int)) = false := by decide
  have c4 : decide ((a.length : Int) < 0) = false := decide_eq_false (by omega)
  have c5 : decide (((a.length + b.length : Nat) : Int) < 0) = false := decide_eq_false (by omega)
  (simp (disch := first | decide | omega | (simp only [nx]; first | done | omega)) only [go_sem, l1, c1, w1, w3, c4]; (repeat with_reducible refine aI ?_))
  rw [loopN_eq]
  (simp (disch := first | decide | omega | (simp only [nx]; first | done | omega)) only [go_sem, l1, c2, w2, w4, c5]; (repeat with_reducible refine aI ?_))
  rw [loopN_eq]
  (simp (disch := first | decide | omega | (simp only [nx]; first | done | omega)) only [go_sem, l1, c3]; (repeat with_reducible refine aI ?_))
  refine DCalls.mono (DCalls.wf (grow_w hS0 (a.length + b.length) hl)) ?_
  rintro d T ⟨hG, hTw⟩
  (simp (disch := first | decide | omega | (simp only [nx]; first | done | omega)) only [go_sem, l1]; (repeat with_reducible refine aI ?_))
  refine dloop_fuel 3 hTw (by kernel_rfl) ?_
  rw [loopN_eq]
  (simp (disch := first | decide | omega | (simp only [nx]; first | done | omega)) only [go_sem, l1, c1]; (repeat with_reducible refine aI ?_))
  refine grH_app hS0 hG (by simp only [List.length_nil]; omega) fun c' zs' hG1 hnx1 => ?_
  (simp (disch := first | decide | omega | (simp only [nx]; first | done | omega)) only [go_sem, l1, w1]; (repeat with_reducible refine aI ?_))
  rw [loopN_eq]
  (simp (disch := first | decide | omega | (simp only [nx]; first | done | omega)) only [go_sem, l1, c2]; (repeat with_reducible refine aI ?_))
  simp only [List.nil_append, List.length_nil, Nat.zero_add] at hG1
  try simp only [List.nil_append, List.length_nil, Nat.zero_add]
  refine grH_app hS0 hG1 (by omega) fun c2' zs2' hG2 hnx2 => ?_
  (simp (disch := first | decide | omega | (simp only [nx]; first | done | omega)) only [go_sem, l1, w2]; (repeat with_reducible refine aI ?_))
  rw [loopN_eq]
  (simp (disch := first | decide | omega | (simp only [nx]; first | done | omega)) only [go_sem, l1, c3]; (repeat with_reducible refine aI ?_))
  obtain ⟨S1, k, c, zs, t1, t2, t3, t4, t5, t6⟩ := hG2.own.win
  rw [List.length_map, List.length_append] at t1
  refine ⟨S1, _, t1, k, c, zs, by rw [List.length_append], ?_, ⟨t3, t4, t5⟩, ?_⟩
  · rcases t6 with ⟨o, n, c', e⟩ | e
    · exact hG2.lo _ _ _ _ e
    · rw [e]; exact hG2.sub.next
  · rcases t2 with e | e
    · rw [e]; exact hG2.sub
    · rw [e]; exact hG2.sub.add hS0 _
theorem closed_bB (l : List UInt8) : (D.sl .no (l.map bD)).closed := by
  simp only [D.closed, D.all, Own.all, true_and]
  refine allL_iff.2 fun d hd => ?_
  obtain ⟨b, _, rfl⟩ := List.mem_map.1 hd
  simp [bD, D.all]
theorem frz_bB (l : List UInt8) : frzL (l.map bD) = l.map bD := by simp [frzL_map, bD, D.frz, Function.comp_def]
theorem elBy : elT Tryd.prog 38 = some 5 := by kernel_rfl
theorem szBy : szOf Tryd.prog 5 = 1 := by kernel_rfl
theorem byBy : bytesOf Tryd.prog 5 = 1 := by kernel_rfl
theorem zeBy : zeroT Tryd.prog 5 = true := by kernel_rfl
theorem wBy (l : List UInt8) : ∀ d ∈ l.map bD, d.width = 1 := fun d hd => by obtain ⟨x, _, rfl⟩ := List.mem_map.1 hd; rfl
theorem dcalls_emp {P : Program} {g : FuncId} {own : Own} {args : List D} {S : St} {K : D → St → Prop} (h : ∀ A c, DCalls P g (.v (.slice A 0 c) :: args) S K) : DCalls P g (.sl own [] :: args) S K := fun base η w vs hM hr => by
  simp only [RepL] at hr
  obtain ⟨x, xs, rfl, hx, hxs⟩ := hr
  simp only [Rep] at hx
  obtain ⟨A, c, rfl, _⟩ := hx
  exact h A c base η w _ hM (by simp only [RepL, Rep]; exact ⟨_, xs, rfl, rfl, hxs⟩)
theorem eqnil_by (A : Option Addr) (c : Nat) (x : Operand) : pureRun Tryd.prog (do eqGuard .eql 38 x (.const (.slice none 0 0)) (.slice A 0 c) (.slice none 0 0); binOp .eql 38 (.slice A 0 c) (.slice none 0 0)) = some (.bool A.isNone) := by
  cases A <;> kernel_rfl
theorem bin_nilv (A : Option Addr) (c : Nat) (x : Operand) : dbin Tryd.prog .eql 38 x (.const (.slice none 0 0)) (.v (.slice A 0 c)) (.sl .full []) = some (True, .v (.bool A.isNone)) := by
  rw [bin_vnil, eqnil_by]; rfl
theorem clone_d (own : Own) (l : List UInt8) (hl : l.length ≤ 1000000) : DPure Tryd.prog 38 [.sl own (l.map bD)] (.sl .no (l.map bD)) := by
  rcases Nat.eq_zero_or_pos l.length with h0 | h0
  · have h0' : l = [] := List.eq_nil_of_length_eq_zero h0
    subst h0'
    refine fun S => dcalls_emp fun A c => ?_
    have key : DPure Tryd.prog 38 [.v (.slice A 0 c)] (.sl .no []) := by
      refine dpure_of_dwp mixed Tryd.func38 rfl (fun _ _ => by kernel_rfl) (rs := [.tmp 2]) rfl (by kernel_rfl) (closed_bB []) (fun S hS => ?_)
      cases A with
      | none =>
        (simp (disch := first | decide | omega | (simp only [nx]; first | done | omega)) only [go_sem, bin_nilv, Option.isNone_none]; (repeat with_reducible refine aI ?_))
        refine ⟨?_, (by (repeat' first | assumption | exact St.Sub.refl _ | exact RowOk.sub (by assumption) (by assumption) | refine St.Sub.trans ?_ (RowOk.sub (by assumption) (by assumption)) | refine St.Sub.add ?_ ?_ _ | refine St.Sub.set ?_ ?_ ?_ _ | refine St.Sub.keep ?_ ?_ | refine St.WF.leave ?_ _ | refine St.WF.add ?_ _ | refine St.WF.set ?_ ?_ _ | refine St.WF.grow ?_ _ _ _ | refine St.WF.keep ?_ ?_ | (first | omega | (simp only [RowOk.lo, nx]; first | done | omega))))⟩
        rfl
      | some a =>
        (simp (disch := first | decide | omega | (simp only [nx]; first | done | omega)) only [go_sem, bin_nilv, Option.isNone_some]; (repeat with_reducible refine aI ?_))
        refine dapp_none elBy (by rw [elBy]; rfl) (zeroT_pos zeBy).2 ?_
        (simp (disch := first | decide | omega | (simp only [nx]; first | done | omega)) only [go_sem]; (repeat with_reducible refine aI ?_))
        refine ⟨?_, (by (repeat' first | assumption | exact St.Sub.refl _ | exact RowOk.sub (by assumption) (by assumption) | refine St.Sub.trans ?_ (RowOk.sub (by assumption) (by assumption)) | refine St.Sub.add ?_ ?_ _ | refine St.Sub.set ?_ ?_ ?_ _ | refine St.Sub.keep ?_ ?_ | refine St.WF.leave ?_ _ | refine St.WF.add ?_ _ | refine St.WF.set ?_ ?_ _ | refine St.WF.grow ?_ _ _ _ | refine St.WF.keep ?_ ?_ | (first | omega | (simp only [RowOk.lo, nx]; first | done | omega))))⟩
        rfl
    exact key S
  · refine dpure_of_dwp mixed Tryd.func38 rfl (fun _ _ => by kernel_rfl) (rs := [.tmp 2]) rfl (by kernel_rfl) (closed_bB _) (fun S hS => ?_)
    (simp (disch := first | decide | omega | (simp only [nx]; first | done | omega)) only [go_sem]; (repeat with_reducible refine aI ?_))
    refine app_more elBy zeBy (.inl rfl) (fun _ h => by cases h) (by rw [szBy]; exact wBy l) (by simp only [List.length_nil, List.length_map]; omega) (by simp only [List.length_nil, List.length_map, byBy]; omega) ?_
    (simp (disch := first | decide | omega | (simp only [nx]; first | done | omega)) only [go_sem, List.nil_append]; (repeat with_reducible refine aI ?_))
    refine ⟨?_, St.Sub.grow (St.Sub.refl S) hS (fun _ h => by cases h) _ _⟩
    simp only [D.frz, frz_bB]
end
end Go.Proofs.YtonncfminojejaaDoor

namespace Go.Proofs.YtonncfminojejaaDoor
open Go.RowKit
section
variable {P : Program} {w : World} {η : Names} {X X' : Nat → Nat → Prop}
end
theorem dpure_nil {P : Program} {g : FuncId} {args : List D} {x : Value} (hc : allL (fun _ => False) args) (h : DAt P g args St.nil (.v x)) : DPure P g args (.v x) := fun S base η w vs hM hr => by
  have hg : GlobOk w.heap.size w := fun p hp => ⟨Nat.lt_of_lt_of_le (hM.glob p hp).1 hM.base_, (hM.glob p hp).2⟩
  have K : Keep (fun _ => False) w η (Fix P S η) w (fun _ => none) (Fix P St.nil fun _ => none) := ⟨Nat.le_refl _, fun b i _ _ => ⟨fix_nil b i, rfl⟩, fun _ _ h => h.elim, fun _ cur _ h => ⟨cur, h, rfl⟩⟩
  rcases h w.heap.size _ w vs (mem_nil w hg) (RepL.keep K hc hr) with ⟨h1, k⟩ | ⟨d, S', η', u, w', k, ⟨rfl, _⟩, h3, h4⟩
  · refine .inl ⟨h1, k.mono fun _ _ ⟨d, S', η', u, ⟨h1, _⟩, h2, h3, h4⟩ => ?_⟩
    subst h1
    simp only [Rep] at h3
    subst h3
    exact ⟨.v _, S, η, _, ⟨rfl, rfl⟩, h2, by simp only [Rep], goes_below hM h4.below h4.drawn⟩
  · simp only [Rep] at h3
    subst h3
    exact .inr ⟨.v _, S, η, _, w', k, ⟨rfl, rfl⟩, by simp only [Rep], goes_below hM h4.below h4.drawn⟩
end Go.Proofs.YtonncfminojejaaDoor

namespace Go.Proofs.YtonncfminojejaaDoor
open Go.RowKit
theorem dcalls_frz {P : Program} {g : FuncId} {args : List D} {S : St} {K K' : D → St → Prop} (h : DCalls P g args S K) (hk : ∀ d T, K d T → K' d.frz T) : DCalls P g args S K' := fun base η w vs hM hr => by
  rcases h base η w vs hM hr with ⟨h1, h2⟩ | ⟨d, S', η', v, w', h1, h2, h3, h4⟩
  · exact .inl ⟨h1, h2.mono fun _ _ ⟨d, S', η', v, h1, h2, h3, h4⟩ => ⟨d.frz, S', η', v, hk _ _ h1, h2, h3.frz, h4⟩⟩
  · exact .inr ⟨d.frz, S', η', v, w', h1, hk _ _ h2, h3.frz, h4⟩
structure FrW (k : Nat) (T T' : St) : Prop where
  next : T.next ≤ T'.next
  box : ∀ j t cs, j ≠ k → T.ob j = some (.box t cs) → T'.ob j = some (.box t cs)
  row : ∀ j e n, e ≠ 62 → e ≠ 38 → T.ob j = some (.row e n) → T'.ob j = some (.row e n)
theorem FrW.of_sub {k : Nat} {A B : St} (h : A.Sub B) : FrW k A B := ⟨h.next, fun j _ _ _ e => h.ob j _ e, fun j _ _ _ _ e => h.ob j _ e⟩
def encB (l : List UInt8) : D := .sl .no (l.map bD)
def kept (f : DGst → DGst × Bool) (gs : List DGst) (i : Nat) : List DGst := (((gs.take i).map f).filter (·.2)).map (·.1)
theorem kept_len (f : DGst → DGst × Bool) (gs : List DGst) (i : Nat) : (kept f gs i).length ≤ gs.length := by
  have h1 := List.length_filter_le (fun x : DGst × Bool => x.2) ((gs.take i).map f)
  rw [List.length_map, List.length_take] at h1
  rw [kept, List.length_map]
  omega
theorem kept_succ {f : DGst → DGst × Bool} {gs : List DGst} {i : Nat} (h : i < gs.length) : kept f gs (i + 1) = kept f gs i ++ if (f gs[i]).2 then [(f gs[i]).1] else [] := by
  unfold kept
  rw [List.take_succ_eq_append_getElem h, List.map_append, List.filter_append, List.map_append]
  congr 1
  cases hp : (f gs[i]).2 <;> simp [hp]
def GRow (own : Own) (n : Nat) (T : St) : Prop := own = .full ∧ n = 0 ∨ ∃ g, own = .row g ∧ T.ob g = some (.row 62 n)
theorem grow_keepG {V : St} (hV : V.WF) {own : Own} {n m : Nat} (h : GRow own n V) {j : Nat} {o : Ob} (e : V.ob j = some o) (ho : ∀ n, o ≠ .row 62 n) : (V.grow own 62 m).ob j = some o := by
  have hj := hV.lt e
  rw [growM_skip (by omega) (fun g hg => ?_), e]
  rintro rfl
  rcases h with ⟨h1, _⟩ | ⟨g', h1, h2⟩
  · rw [h1] at hg; cases hg
  · rw [h1] at hg; injection hg with hg; subst hg
    rw [e] at h2; injection h2 with h2
    exact ho _ h2
section
set_option maxRecDepth 200000
set_option maxHeartbeats 8000000
theorem keep_w {S : St} {k : Nat} (X : Nat → Prop) {gs : List DGst} {size : Nat} {g : FuncId} {cs : List D} (f : DGst → DGst × Bool) (E : Nat → St → Prop) (hrm : RoomAt k gs size S) (hl : gs.length ≤ 1000000) (hX : ¬ X k) (hX2 : ∀ j, X j → j < S.next) (hE0 : E 0 S)
    (hE : ∀ i T T', E i T → (∀ j t cs, T.ob j = some (.box t cs) → T'.ob j = some (.box t cs)) → (∀ j n, T.ob j = some (.row 38 n) → T'.ob j = some (.row 38 n)) → E i T')
    (hc : ∀ i (hi : i < gs.length) U kg, U.WF → E i U → S.next ≤ kg → U.ob kg = some (.box 62 (gsCs gs[i])) → (∀ j t cs, ¬ X j → S.ob j = some (.box t cs) → U.ob j = some (.box t cs)) →
      DCalls Tryd.prog g (.loc kg 0 :: cs) U fun d V => d = .v (.bool (f gs[i]).2) ∧ V.WF ∧ V.ob kg = some (.box 62 (gsCs (f gs[i]).1)) ∧ E (i + 1) V ∧ U.next ≤ V.next ∧ (∀ j t cs, j ≠ kg → ¬ X j → U.ob j = some (.box t cs) → V.ob j = some (.box t cs)) ∧ (∀ j e n, e ≠ 38 → U.ob j = some (.row e n) → V.ob j = some (.row e n))) :
    DCalls Tryd.prog 32 [.loc k 0, .fn (.func g) [] cs] S fun d T => d = .tup [] ∧ RoomAt k (kept f gs gs.length) size T ∧ S.next ≤ T.next ∧ (∃ T0, E gs.length T0 ∧ (∀ j t cs, j ≠ k → T0.ob j = some (.box t cs) → T.ob j = some (.box t cs)) ∧ (∀ j n, T0.ob j = some (.row 38 n) → T.ob j = some (.row 38 n))) ∧
      (∀ j t cs, j ≠ k → ¬ X j → S.ob j = some (.box t cs) → T.ob j = some (.box t cs)) ∧ (∀ j e n, e ≠ 62 → e ≠ 38 → S.ob j = some (.row e n) → T.ob j = some (.row e n)) := by
  obtain ⟨own0, h1, _⟩ := hrm.ex
  refine dcalls_inline mixed Tryd.func32 rfl (fun _ _ => by kernel_rfl) (rs := []) rfl (by kernel_rfl) (fun hS => ?_)
  (simp (disch := first | decide | omega | (simp only [nx]; first | done | omega)) only [go_sem]; (repeat with_reducible refine aI ?_))
  refine (all_at (x := .v (.int .i64 ((size : Nat) : Int))) (own := own0) (gs := gs) h1).mono ?_
  rintro d T' ⟨rfl, rfl⟩
  (simp (disch := first | decide | omega | (simp only [nx]; first | done | omega)) only [go_sem]; (repeat with_reducible refine aI ?_))
  refine dloop_up (fun t => List.contains [4, 6, 10, 11, 12, 13, 14, 15, 16, 17, 18, 19, 20] t) (by kernel_rfl) (by exact (by (repeat' first | assumption | refine St.WF.leave ?_ _ | refine St.WF.add ?_ _ | refine St.WF.set ?_ ?_ _ | refine St.WF.grow ?_ _ _ _ | refine St.WF.keep ?_ ?_ | (first | omega | (simp only [RowOk.lo, nx]; first | done | omega))))) gs.length (fun i q T => i ≤ gs.length ∧ q 10 = .v (.int .i64 ((i : Nat) : Int)) ∧ (∃ own, q 4 = .sl own ((kept f gs i).map encG) ∧ GRow own (kept f gs i).length T) ∧ E i T ∧ T'.next ≤ T.next ∧ (∀ j t cs, ¬ X j → T'.ob j = some (.box t cs) → T.ob j = some (.box t cs)) ∧ (∀ j e n, e ≠ 62 → e ≠ 38 → T'.ob j = some (.row e n) → T.ob j = some (.row e n)))
    ⟨by omega, by (first | (simp (disch := first | decide | omega | (simp only [nx]; first | done | omega)) only [go_sem]; first | done | rfl) | rfl), ⟨.full, by (first | (simp (disch := first | decide | omega | (simp only [nx]; first | done | omega)) only [go_sem]; first | done | rfl) | rfl), .inl ⟨rfl, rfl⟩⟩, hE0, Nat.le_refl _, fun _ _ _ _ h => h, fun _ _ _ _ _ h => h⟩ ?_
  rintro i q T hT hg ⟨le, q10, ⟨own, q4, hrow⟩, hEi, hnx, hbx, hrw⟩
  (have q0 := hg 0 rfl; have q1 := hg 1 rfl; have q8 := hg 8 rfl; have q9 := hg 9 rfl; simp (disch := first | decide | omega | (simp only [nx]; first | done | omega)) only [go_sem] at q0 q1 q8 q9; clear hg)
  have hkl := kept_len f gs i
  by_cases hlt : i < gs.length
  · have b1 : decide ((i : Int) < (gs.length : Int)) = true := decide_eq_true (by omega)
    have w1 : IntKind.i64.wrap ((i : Int) + 1) = ((i + 1 : Nat) : Int) := IntWalk.i64_in _ ⟨by omega, by omega⟩
    (simp (disch := first | decide | omega | (simp only [nx]; first | done | omega)) only [go_sem, q1, q8, q9, q10, b1, hlt]; (repeat with_reducible refine aI ?_))
    rw [St.add_set]
    have hnew : ∀ j o, T.ob j = some o → (T.add (.box 62 (gsCs gs[i]))).ob j = some o := fun j o e => by
      have := hT.lt e
      rw [add_ob, if_neg (by omega)]; exact e
    refine (hc i hlt (T.add (.box 62 (gsCs gs[i]))) T.next (hT.add _) (hE i T _ hEi (fun j t cs e => hnew j _ e) fun j n e => hnew j _ e) hnx (by rw [add_ob, if_pos rfl]) (fun j t cs hj e => hnew j _ (hbx j t cs hj e))).mono ?_
    rintro d V ⟨rfl, hV, v1, v2, v3, v4, v5⟩
    have hEi2 := v2
    have v3' : T.next + 1 ≤ V.next := v3
    have hTV : ∀ j t cs, ¬ X j → T.ob j = some (.box t cs) → V.ob j = some (.box t cs) := fun j t cs hj e => v4 j t cs (by have := hT.lt e; omega) hj (hnew j _ e)
    have hrowV : GRow own (kept f gs i).length V := by
      rcases hrow with h | ⟨g, h2, h3⟩
      · exact .inl h
      · exact .inr ⟨g, h2, v5 g _ _ (by decide) (hnew g _ h3)⟩
    have hks := kept_succ (f := f) hlt
    cases hp : (f gs[i]).2 with
    | false =>
      (simp (disch := first | decide | omega | (simp only [nx]; first | done | omega)) only [go_sem, q10, w1]; (repeat with_reducible refine aI ?_))
      rw [hp] at hks
      simp only [Bool.false_eq_true, if_false, List.append_nil] at hks
      refine ⟨by omega, V.ob, fun _ _ h => h, by omega, by (first | (simp (disch := first | decide | omega | (simp only [nx]; first | done | omega)) only [go_sem, w1]; first | done | rfl) | rfl), ⟨own, ?_, ?_⟩, hEi2, by show T'.next ≤ V.next; omega, fun j t cs hj e => hTV j t cs hj (hbx j t cs hj e), fun j e n h1 h2 h3 => v5 j e n h2 (hnew j _ (hrw j e n h1 h2 h3))⟩
      · rw [hks]; (first | (simp (disch := first | decide | omega | (simp only [nx]; first | done | omega)) only [go_sem, q4]; first | done | rfl) | rfl)
      · rw [hks]; exact hrowV
    | true =>
      (simp (disch := first | decide | omega | (simp only [nx]; first | done | omega)) only [go_sem, q4, v1]; (repeat with_reducible refine aI ?_))
      have hrowA : own = .full ∨ ∃ g, own = .row g ∧ V.ob g = some (.row 62 ((kept f gs i).map encG).length) := by
        rcases hrowV with ⟨h1, _⟩ | ⟨g, h1, h2⟩
        · exact .inl h1
        · exact .inr ⟨g, h1, by rw [List.length_map]; exact h2⟩
      refine app_more elGs zeGs hrowA (by rw [szGs]; exact wGs _) (by rw [szGs]; exact fun d hd => by obtain rfl := List.mem_singleton.1 hd; exact width_encG _) (by rw [List.length_map]; simp; omega) (by rw [List.length_map, byGs]; simp; omega) ?_
      (simp (disch := first | decide | omega | (simp only [nx]; first | done | omega)) only [go_sem, q10, w1]; (repeat with_reducible refine aI ?_))
      rw [hp] at hks
      simp only [if_true] at hks
      have hlm : ((kept f gs i).map encG).length = (kept f gs i).length := List.length_map _
      have gk : ∀ j o, V.ob j = some o → (∀ n, o ≠ .row 62 n) → (V.grow own 62 ((kept f gs i).length + 1)).ob j = some o := fun j o e ho => grow_keepG hV hrowV e ho
      refine ⟨by omega, (V.grow own 62 ((kept f gs i).length + 1)).ob, ?_, by omega, by (first | (simp (disch := first | decide | omega | (simp only [nx]; first | done | omega)) only [go_sem, w1]; first | done | rfl) | rfl), ⟨.row V.next, ?_, .inr ⟨V.next, rfl, ?_⟩⟩, ?_, ?_, ?_, ?_⟩
      · first | exact fun _ _ h => h | (rw [hlm]; exact fun _ _ h => h)
      · rw [hks, List.map_append]; (first | (simp (disch := first | decide | omega | (simp only [nx]; first | done | omega)) only [go_sem]; first | done | rfl) | rfl)
      · rw [hks, List.length_append]
        exact growM_hit
      · exact hE (i + 1) V _ hEi2 (fun j t cs e => gk j _ e fun n h => by cases h) fun j n e => gk j _ e fun n h => by injection h with h _; exact absurd h (by decide)
      · show T'.next ≤ (V.grow own 62 ((kept f gs i).length + 1)).next
        rw [grow_next]
        omega
      · exact fun j t cs hj e => gk j _ (hTV j t cs hj (hbx j t cs hj e)) fun n h => by cases h
      · exact fun j e n h1 h2 h3 => gk j _ (v5 j e n h2 (hnew j _ (hrw j e n h1 h2 h3))) fun n h => by injection h with h _; exact h1 h
  · have b1 : decide ((i : Int) < (gs.length : Int)) = false := decide_eq_false (by omega)
    have hTk := hbx k _ _ hX h1
    have hie : i = gs.length := by omega
    subst hie
    (simp (disch := first | decide | omega | (simp only [nx]; first | done | omega)) only [go_sem, q0, q1, q4, q8, q9, q10, b1, hTk]; (repeat with_reducible refine aI ?_))
    refine ⟨⟨own, ?_, ?_⟩, by show T'.next ≤ T.next; omega, ⟨T, hEi, fun j t cs hj e => ?_, fun j n e => ?_⟩, fun j t cs hj hj2 e => ?_, fun j e n h1' h2 h3 => ?_⟩
    · show (if k = k then _ else _) = _
      rw [if_pos rfl]
    · rcases hrow with ⟨h2, h3⟩ | ⟨g, h2, h3⟩
      · exact .inl ⟨h2, List.eq_nil_of_length_eq_zero h3⟩
      · refine .inr ⟨g, h2, ?_⟩
        show (if g = k then _ else T.ob g) = _
        rw [if_neg (fun e => by rw [e, hTk] at h3; cases h3)]
        exact h3
    · show (if j = k then _ else T.ob j) = _
      rw [if_neg hj]; exact e
    · show (if j = k then _ else T.ob j) = _
      rw [if_neg (fun e' => by rw [e', hTk] at e; cases e)]; exact e
    · show (if j = k then _ else T.ob j) = _
      rw [if_neg hj]; exact hbx j t cs hj2 e
    · have h4 := hrw j e n h1' h2 h3
      show (if j = k then _ else T.ob j) = _
      rw [if_neg (fun e' => by rw [e', hTk] at h4; cases h4)]; exact h4
def OutAt (ko : Nat) (outs : List (List UInt8)) (T : St) : Prop := ∃ own, T.ob ko = some (.box 45 [.sl own (outs.map encB)]) ∧ (own = .full ∧ outs = [] ∨ ∃ g, own = .row g ∧ T.ob g = some (.row 38 outs.length))
theorem OutAt.keep {ko : Nat} {outs : List (List UInt8)} {T T' : St} (h : OutAt ko outs T) (hb : ∀ j t cs, T.ob j = some (.box t cs) → T'.ob j = some (.box t cs)) (hr : ∀ j n, T.ob j = some (.row 38 n) → T'.ob j = some (.row 38 n)) : OutAt ko outs T' := by
  obtain ⟨own, h1, h2⟩ := h
  refine ⟨own, hb _ _ _ h1, ?_⟩
  rcases h2 with h2 | ⟨g, h3, h4⟩
  · exact .inl h2
  · exact .inr ⟨g, h3, hr _ _ h4⟩
theorem drop1_at {U : St} {kg ks : Nat} {g : DGst} {h : H32} (h1 : U.ob kg = some (.box 62 (gsCs g))) (h2 : U.ob ks = some (.box 37 (h.1.map bD))) : DAt Tryd.prog 39 [.loc kg 0, .loc ks 0] U (.v (.bool (decide (g.n ≠ h)))) := by
  refine dat_of_dwpL mixed Tryd.func39 rfl (fun _ _ => by kernel_rfl) (rs := [.tmp 3]) rfl (by kernel_rfl) (by trivial) (fun hS => ?_)
  have lh := h.2
  have k1 := hS.lt h1
  have k2 := hS.lt h2
  (simp (disch := first | decide | omega | (simp only [nx]; first | done | omega)) only [go_sem]; (repeat with_reducible refine aI ?_))
  refine ddraw_mk 7 (by kernel_rfl) ?_
  (simp (disch := first | decide | omega | (simp only [nx]; first | done | omega)) only [go_sem, h1, h2, lh]; (repeat with_reducible refine aI ?_))
  refine ⟨?_, (by (repeat' first | assumption | exact St.Sub.refl _ | exact RowOk.sub (by assumption) (by assumption) | refine St.Sub.trans ?_ (RowOk.sub (by assumption) (by assumption)) | refine St.Sub.add ?_ ?_ _ | refine St.Sub.set ?_ ?_ ?_ _ | refine St.Sub.keep ?_ ?_ | refine St.WF.leave ?_ _ | refine St.WF.add ?_ _ | refine St.WF.set ?_ ?_ _ | refine St.WF.grow ?_ _ _ _ | refine St.WF.keep ?_ ?_ | (first | omega | (simp only [RowOk.lo, nx]; first | done | omega))))⟩
  simp [D.frz]
theorem kept_drop (gs : List DGst) (h : H32) : kept (fun g => (g, decide (g.n ≠ h))) gs gs.length = dropG gs h := by
  unfold kept dropG
  rw [List.take_length, List.filter_map, List.map_map]
  have : ((fun x : DGst × Bool => x.1) ∘ fun g : DGst => (g, decide (g.n ≠ h))) = id := rfl
  rw [this, List.map_id]
  rfl
theorem drop_at {S : St} {k : Nat} {gs : List DGst} {size : Nat} (hrm : RoomAt k gs size S) (hl : gs.length ≤ 1000000) (h : H32) : DCalls Tryd.prog 21 [.loc k 0, encH h] S fun d T => d = .v (.bool (hasG gs h)) ∧ RoomAt k (dropG gs h) size T ∧ FrW k S T := by
  refine dcalls_inline mixed Tryd.func21 rfl (fun _ _ => by kernel_rfl) (rs := [.tmp 4]) rfl (by kernel_rfl) (fun hS => ?_)
  obtain ⟨own0, h1, _⟩ := hrm.ex
  have hkl := hS.lt h1
  have lh := h.2
  (simp (disch := first | decide | omega | (simp only [nx]; first | done | omega)) only [go_sem, lh]; (repeat with_reducible refine aI ?_))
  have hsub : S.Sub (S.add (.box 37 (h.1.map bD))) := (St.Sub.refl S).add hS _
  have hrm1 : RoomAt k gs size (S.add (.box 37 (h.1.map bD))) := hrm.mono hsub.ob
  refine go_at (has_at hrm1 hl h) ?_
  (simp (disch := first | decide | omega | (simp only [nx]; first | done | omega)) only [go_sem]; (repeat with_reducible refine aI ?_))
  have key := keep_w (S := S.add (.box 37 (h.1.map bD))) (k := k) (fun _ => False) (g := 39) (cs := [.loc S.next 0]) (fun g => (g, decide (g.n ≠ h))) (fun _ _ => True) hrm1 hl (fun h => h) (fun _ h => h.elim) trivial (fun _ _ _ _ _ _ => trivial) fun i hi U kg hU _ hkg hob hbx => by
    refine (DCalls.wf (drop1_at (ks := S.next) hob (hbx S.next _ _ (fun h => h) (by (first | (simp (disch := first | decide | omega | (simp only [nx]; first | done | omega)) only [go_sem]; first | done | rfl) | rfl))))).mono ?_
    rintro d V ⟨⟨rfl, rfl⟩, hV⟩
    exact ⟨rfl, hV, hob, trivial, Nat.le_refl _, fun _ _ _ _ _ e => e, fun _ _ _ _ e => e⟩
  refine DCalls.mono key ?_
  rintro d T ⟨rfl, hr2, hn2, _, hb2, hw2⟩
  (simp (disch := first | decide | omega | (simp only [nx]; first | done | omega)) only [go_sem]; (repeat with_reducible refine aI ?_))
  rw [kept_drop] at hr2
  exact ⟨hr2, ⟨by have := hsub.next; omega, fun j t cs hj e => hb2 j t cs hj (fun h => h) (hsub.ob j _ e), fun j e n h1 h2 h3 => hw2 j e n h1 h2 (hsub.ob j _ h3)⟩⟩
def cutF (h : H32) (g : DGst) : DGst × Bool := (cutG h g, decide ((cutG h g).lk ≠ []))
theorem kept_done (gs : List DGst) (h : H32) : kept (cutF h) gs gs.length = doneG gs h := by
  unfold kept doneG
  rw [List.take_length, List.filter_map, List.map_map, List.filter_map]
  rfl
theorem out_succ {gs : List DGst} {h : H32} {i : Nat} (hi : i < gs.length) : outG (gs.take (i + 1)) h = outG (gs.take i) h ++ if (cutG h gs[i]).lk = [] then [gs[i].b] else [] := by
  unfold outG
  rw [List.take_succ_eq_append_getElem hi, List.map_append, List.filter_append, List.map_append]
  congr 1
  show List.map (·.b) (List.filter (fun g : DGst => decide (g.lk = [])) [cutG h gs[i]]) = _
  by_cases hp : (cutG h gs[i]).lk = []
  · rw [if_pos hp, List.filter_cons_of_pos (by simpa using hp)]; rfl
  · rw [if_neg hp, List.filter_cons_of_neg (by simpa using hp)]; rfl
theorem elBs : elT Tryd.prog 45 = some 38 := by kernel_rfl
theorem szBs : szOf Tryd.prog 38 = 1 := by kernel_rfl
theorem byBs : bytesOf Tryd.prog 38 = 24 := by kernel_rfl
theorem zeBs : zeroT Tryd.prog 38 = true := by kernel_rfl
theorem wBs (l : List (List UInt8)) : ∀ d ∈ l.map encB, d.width = 1 := fun d hd => by obtain ⟨m, _, rfl⟩ := List.mem_map.1 hd; rfl
theorem done1_w {U : St} {kg ks ko : Nat} {g : DGst} {h : H32} {outs : List (List UInt8)} (h1 : U.ob kg = some (.box 62 (gsCs g))) (h2 : U.ob ks = some (.box 37 (h.1.map bD))) (h3 : OutAt ko outs U) (hne : g.lk ≠ []) (hasc : AscH g.lk) (hlk : g.lk.length ≤ 1000000) (hou : outs.length ≤ 1000000) :
    DCalls Tryd.prog 33 [.loc kg 0, .loc ks 0, .loc ko 0] U fun d V => d = .v (.bool (decide ((cutG h g).lk ≠ []))) ∧ V.WF ∧ V.ob kg = some (.box 62 (gsCs (cutG h g))) ∧ OutAt ko (outs ++ if (cutG h g).lk = [] then [g.b] else []) V ∧ U.next ≤ V.next ∧ (∀ j t cs, j ≠ kg → j ≠ ko → U.ob j = some (.box t cs) → V.ob j = some (.box t cs)) ∧ (∀ j e n, e ≠ 38 → U.ob j = some (.row e n) → V.ob j = some (.row e n)) := by
  refine (DCalls.wf (K := fun d V => d = .v (.bool (decide ((cutG h g).lk ≠ []))) ∧ V.ob kg = some (.box 62 (gsCs (cutG h g))) ∧ OutAt ko (outs ++ if (cutG h g).lk = [] then [g.b] else []) V ∧ U.next ≤ V.next ∧ (∀ j t cs, j ≠ kg → j ≠ ko → U.ob j = some (.box t cs) → V.ob j = some (.box t cs)) ∧ (∀ j e n, e ≠ 38 → U.ob j = some (.row e n) → V.ob j = some (.row e n))) ?_).mono fun d V ⟨⟨a1, a2, a3, a4, a5, a6⟩, aw⟩ => ⟨a1, aw, a2, a3, a4, a5, a6⟩
  have lh := h.2
  refine dcalls_inline mixed Tryd.func33 rfl (fun _ _ => by kernel_rfl) (rs := [.tmp 4]) rfl (by kernel_rfl) (fun hS => ?_)
  have k1 := hS.lt h1
  have k2 := hS.lt h2
  (simp (disch := first | decide | omega | (simp only [nx]; first | done | omega)) only [go_sem]; (repeat with_reducible refine aI ?_))
  refine ddraw_mk 7 (by kernel_rfl) ?_
  (simp (disch := first | decide | omega | (simp only [nx]; first | done | omega)) only [go_sem, h1, h2, lh]; (repeat with_reducible refine aI ?_))
  refine dqgo_mk (ixH_d .no g.lk h hlk) ?_
  by_cases hm : h ∈ g.lk
  · have hany : g.lk.any (fun x => decide (h = x)) = true := List.any_eq_true.2 ⟨h, hm, by simp⟩
    have hi0 : g.lk.findIdx (fun x => decide (h = x)) < g.lk.length := List.findIdx_lt_length_of_exists ⟨h, hm, by simp⟩
    have hat : g.lk[g.lk.findIdx (fun x => decide (h = x))] = h := by
      have := List.findIdx_getElem (w := hi0)
      exact (of_decide_eq_true this).symm
    have e0 : ixOf (fun x => decide (h = x)) g.lk = ((g.lk.findIdx (fun x => decide (h = x)) : Nat) : Int) := by rw [ixOf, if_pos hany]
    rw [e0]
    generalize g.lk.findIdx (fun x => decide (h = x)) = i at *
    have b1 : decide ((i : Int) < 0) = false := decide_eq_false (by omega)
    have w1 : IntKind.i64.wrap ((i : Int) + 1) = ((i + 1 : Nat) : Int) := IntWalk.i64_in _ ⟨by omega, by omega⟩
    have hcut : g.lk.take i ++ g.lk.drop (i + 1) = (cutG h g).lk := erase_filter hasc h hi0 hat
    have p1 : ((i : Int) ≤ (g.lk.length : Int)) = True := eq_true (by omega)
    have p2 : (((i + 1 : Nat) : Int) ≤ (g.lk.length : Int)) = True := eq_true (by omega)
    have p3 : (∀ d, d ∈ List.map encH g.lk → d.cells.length = 32) = True := eq_true (wHs g.lk)
    have m1 : (g.lk.map encH).take i = (g.lk.take i).map encH := List.map_take.symm
    have m2 : ((g.lk.map encH).take g.lk.length).drop (i + 1) = (g.lk.drop (i + 1)).map encH := by rw [List.take_of_length_le (by rw [List.length_map]; omega), List.map_drop]
    (simp (disch := first | decide | omega | (simp only [nx]; first | done | omega)) only [go_sem, b1]; (repeat with_reducible refine aI ?_))
    refine ddraw_mk 18 (by kernel_rfl) ?_
    (simp (disch := first | decide | omega | (simp only [nx]; first | done | omega)) only [go_sem, h1, w1, p1, p2, p3, or_true, m1, m2]; (repeat with_reducible refine aI ?_))
    refine dqgo_mk (concat_d .full .no .no (g.lk.take i) (g.lk.drop (i + 1)) (by rw [List.length_take, List.length_drop]; omega)) ?_
    rw [hcut]
    have hset := set_gsCs g (cutG h g).lk
    have hcg : gsCs ⟨g.n, g.b, (cutG h g).lk⟩ = gsCs (cutG h g) := rfl
    rw [hcg] at hset
    (simp (disch := first | decide | omega | (simp only [nx]; first | done | omega)) only [go_sem, h1, hset]; (repeat with_reducible refine aI ?_))
    obtain ⟨own, o1, o2⟩ := h3
    have hkk : ko ≠ kg := fun e => by rw [e, h1] at o1; injection o1 with o1; injection o1 with o1 _; exact absurd o1 (by decide)
    have hko := hS.lt o1
    have hset2 : ∀ j o, j ≠ kg → U.ob j = some o → (U.set kg (.box 62 (gsCs (cutG h g)))).ob j = some o := fun j o hj e => by rw [set_ob, if_neg hj]; exact e
    have hU1 : (U.set kg (.box 62 (gsCs (cutG h g)))).ob kg = some (.box 62 (gsCs (cutG h g))) := by rw [set_ob, if_pos rfl]
    have hU2 := hset2 ko _ hkk o1
    have hWU : (U.set kg (.box 62 (gsCs (cutG h g)))).WF := hS.set k1 _
    have hNU : (U.set kg (.box 62 (gsCs (cutG h g)))).next = U.next := rfl
    have hrow2 : ∀ j e n, U.ob j = some (.row e n) → (U.set kg (.box 62 (gsCs (cutG h g)))).ob j = some (.row e n) := fun j e n hh => hset2 j _ (fun e' => by rw [e', h1] at hh; cases hh) hh
    generalize U.set kg (.box 62 (gsCs (cutG h g))) = U1 at *
    by_cases he : (cutG h g).lk = []
    · have b2 : ((((cutG h g).lk.length : Nat) : Int) == 0) = true := by rw [he]; rfl
      have b3 : decide ((0 : Int) < (((cutG h g).lk.length : Nat) : Int)) = false := by rw [he]; rfl
      (simp (disch := first | decide | omega | (simp only [nx]; first | done | omega)) only [go_sem, hU1, b2]; (repeat with_reducible refine aI ?_))
      refine ddraw_any (fun S' => S'.ob ko = some (.box 45 [.sl own (outs.map encB)]) ∧ S'.ob kg = some (.box 62 (gsCs (cutG h g)))) 7 (by (first | (simp (disch := first | decide | omega | (simp only [nx]; first | done | omega)) only [go_sem, hU1, hU2, true_and, and_true]; first | done | rfl) | rfl)) (by kernel_rfl) ?_
      (refine s_take 0 rfl (by kernel_rfl) (by kernel_rfl) (v := ?v1) (fun S' hz => dquietR_of ?h1) <| s_take 1 rfl (by kernel_rfl) (by kernel_rfl) (v := ?v2) (fun S' hz => dquietR_of ?h2) <| s_take 2 rfl (by kernel_rfl) (by kernel_rfl) (v := ?v3) (fun S' hz => dquietR_of ?h3) <| s_take 3 rfl (by kernel_rfl) (by kernel_rfl) (v := ?v4) (fun S' hz => dquietR_of ?h4) <| s_take 4 rfl (by kernel_rfl) (by kernel_rfl) (v := ?v5) (fun S' hz => dquietR_of ?h5) <| s_take 5 rfl (by kernel_rfl) (by kernel_rfl) (v := ?v6) (fun S' hz => dquietR_of ?h6) <| ?k6; (case h1 | h2 | h3 | h4 | h5 | h6 => ((simp (disch := first | decide | omega | (simp only [nx]; first | done | omega)) only [go_sem, hz.1, hz.2, hz]; (repeat with_reducible refine aI ?_)); first | done | exact rfl | omega)))
      (refine s_split [6] (by kernel_rfl) (by simp) ?_; intro j_ hj_; obtain rfl : j_ = 6 := (by simpa using hj_); clear hj_; refine s_op rfl ?_; (simp (disch := first | decide | omega | (simp only [nx]; first | done | omega)) only [go_sem]; (repeat with_reducible refine aI ?_)))
      have hrowA : own = .full ∨ ∃ g, own = .row g ∧ U1.ob g = some (.row 38 (outs.map encB).length) := by
        rcases o2 with ⟨e1, _⟩ | ⟨g2, e1, e2⟩
        · exact .inl e1
        · exact .inr ⟨g2, e1, by rw [List.length_map]; exact hrow2 _ _ _ e2⟩
      have hgk : ∀ j o m, U1.ob j = some o → (∀ n, o ≠ .row 38 n) → (U1.grow own 38 m).ob j = some o := fun j o m e ho => by
        have hj := hWU.lt e
        rw [growM_skip (by omega) (fun g hg => ?_), e]
        rintro rfl
        rcases hrowA with e1 | ⟨g', e1, e2⟩
        · rw [e1] at hg; cases hg
        · rw [e1] at hg; injection hg with hg; subst hg
          rw [e] at e2; injection e2 with e2
          exact ho _ e2
      refine app_more elBs zeBs hrowA (by rw [szBs]; exact wBs _) (by rw [szBs]; exact fun d hd => by obtain rfl := List.mem_singleton.1 hd; rfl) (by rw [List.length_map]; simp; omega) (by rw [List.length_map, byBs]; simp; omega) ?_
      have hlo : (outs.map encB).length = outs.length := List.length_map _
      have z1 := hgk ko _ (outs.length + 1) hU2 (fun n h => by cases h)
      have z2 := hgk kg _ (outs.length + 1) hU1 (fun n h => by cases h)
      have hgn : (U1.grow own 38 (outs.length + 1)).next = U1.next + 1 := grow_next _ _ _ _
      rw [hlo]
      refine ⟨⟨z1, z2⟩, ?_⟩
      (refine s_done (by kernel_rfl) ?_; (simp (disch := first | decide | omega | (simp only [nx]; first | done | omega)) only [go_sem, z1, z2, b3]; (repeat with_reducible refine aI ?_)))
      refine ⟨by rw [decide_eq_false (fun e => e he)], ?_, ?_, ?_, ?_⟩
      · rw [if_pos he]
        refine ⟨.row U1.next, ?_, .inr ⟨U1.next, rfl, ?_⟩⟩
        · rw [set_ob, if_pos rfl, List.map_append]; rfl
        · rw [set_ob, if_neg (by omega), List.length_append]
          exact growM_hit
      · show U.next ≤ U1.next + 1
        omega
      · intro j t cs hj hj2 e
        rw [set_ob, if_neg hj2]
        exact hgk j _ _ (hset2 j _ hj e) fun n h => by cases h
      · intro j e n hne' hh
        have hr1 := hrow2 j e n hh
        rw [set_ob, if_neg (fun e' => by rw [e', hU2] at hr1; cases hr1)]
        exact hgk j _ _ hr1 fun n h => by injection h with h _; exact hne' h
    · have b2 : ((((cutG h g).lk.length : Nat) : Int) == 0) = false := by
        have := List.length_pos_iff.2 he
        rw [beq_eq_false_iff_ne]; omega
      have b3 : decide ((0 : Int) < (((cutG h g).lk.length : Nat) : Int)) = true := decide_eq_true (by have := List.length_pos_iff.2 he; omega)
      (simp (disch := first | decide | omega | (simp only [nx]; first | done | omega)) only [go_sem, hU1, b2, b3]; (repeat with_reducible refine aI ?_))
      refine ⟨by rw [decide_eq_true he], ?_, by omega, fun j t cs hj _ e => hset2 j _ hj e, fun j e n _ hh => hrow2 j e n hh⟩
      rw [if_neg he, List.append_nil]
      refine ⟨own, hU2, ?_⟩
      rcases o2 with o2 | ⟨g2, o3, o4⟩
      · exact .inl o2
      · exact .inr ⟨g2, o3, hrow2 _ _ _ o4⟩
  · have hany : g.lk.any (fun x => decide (h = x)) = false := List.any_eq_false.2 fun x hx e => hm ((of_decide_eq_true e) ▸ hx)
    have e0 : ixOf (fun x => decide (h = x)) g.lk = -1 := by rw [ixOf, if_neg (by rw [hany]; simp)]
    have b1 : decide ((-1 : Int) < 0) = true := by decide
    rw [e0]
    have hcut : cutG h g = g := by unfold cutG; rw [filter_self hm]
    (simp (disch := first | decide | omega | (simp only [nx]; first | done | omega)) only [go_sem, b1]; (repeat with_reducible refine aI ?_))
    rw [hcut]
    refine ⟨by rw [decide_eq_true hne], h1, ?_, Nat.le_refl _, fun _ _ _ _ _ e => e, fun _ _ _ _ e => e⟩
    rw [if_neg hne, List.append_nil]
    exact h3
end
end Go.Proofs.YtonncfminojejaaDoor

namespace Go.Proofs.YtonncfminojejaaDoor
open Go.RowKit
section
set_option maxRecDepth 200000
set_option maxHeartbeats 8000000
theorem frz_encBs (l : List (List UInt8)) : frzL (l.map encB) = l.map encB := by
  rw [frzL_map, List.map_map]
  refine List.map_congr_left fun m _ => ?_
  show (encB m).frz = encB m
  simp only [encB, D.frz, frz_bB]
def GOk (gs : List DGst) : Prop := ∀ g ∈ gs, g.lk ≠ [] ∧ AscH g.lk ∧ g.lk.length ≤ 1000000 ∧ g.b.length ≤ 1000000
theorem done_at {S : St} {k : Nat} {gs : List DGst} {size : Nat} (hrm : RoomAt k gs size S) (hl : gs.length ≤ 1000000) (hok : GOk gs) (h : H32) : DCalls Tryd.prog 13 [.loc k 0, encH h] S fun d T => d = .sl .no ((outG gs h).map encB) ∧ RoomAt k (doneG gs h) size T ∧ FrW k S T := by
  refine dcalls_frz (K := fun d T => (∃ own, d = .sl own ((outG gs h).map encB)) ∧ RoomAt k (doneG gs h) size T ∧ FrW k S T) ?_ fun d T ⟨⟨own, e⟩, h2⟩ => ⟨by subst e; simp only [D.frz, frz_encBs], h2⟩
  obtain ⟨own0, h1, _⟩ := hrm.ex
  refine dcalls_inline mixed Tryd.func13 rfl (fun _ _ => by kernel_rfl) (rs := [.tmp 4]) rfl (by kernel_rfl) (fun hS => ?_)
  have hkl := hS.lt h1
  have lh := h.2
  (simp (disch := first | decide | omega | (simp only [nx]; first | done | omega)) only [go_sem, lh]; (repeat with_reducible refine aI ?_))
  have hsub : S.Sub ((S.add (.box 37 (h.1.map bD))).add (.box 45 [.sl .full []])) := ((St.Sub.refl S).add hS _).add hS _
  have hrm1 : RoomAt k gs size ((S.add (.box 37 (h.1.map bD))).add (.box 45 [.sl .full []])) := hrm.mono hsub.ob
  have key := keep_w (S := (S.add (.box 37 (h.1.map bD))).add (.box 45 [.sl .full []])) (k := k) (fun j => j = S.next + 1) (g := 33) (cs := [.loc S.next 0, .loc (S.next + 1) 0]) (cutF h) (fun i T => OutAt (S.next + 1) (outG (gs.take i) h) T) hrm1 hl (by omega) (fun j e => by subst e; show S.next + 1 < S.next + 1 + 1; omega)
    ⟨.full, by (first | (simp (disch := first | decide | omega | (simp only [nx]; first | done | omega)) only [go_sem]; first | done | rfl) | rfl), .inl ⟨rfl, rfl⟩⟩ (fun _ _ _ h h2 h3 => h.keep h2 h3) fun i hi U kg hU hE hkg hob hbx => by
    have hmem : gs[i] ∈ gs := List.getElem_mem hi
    have hlen : (outG (gs.take i) h).length ≤ 1000000 := by
      have h1 := List.length_filter_le (fun g : DGst => decide (g.lk = [])) ((gs.take i).map (cutG h))
      rw [List.length_map, List.length_take] at h1
      rw [outG, List.length_map]
      omega
    refine DCalls.mono (done1_w (ks := S.next) hob (hbx S.next _ _ (by omega) (by (first | (simp (disch := first | decide | omega | (simp only [nx]; first | done | omega)) only [go_sem]; first | done | rfl) | rfl))) hE (hok _ hmem).1 (hok _ hmem).2.1 (hok _ hmem).2.2.1 hlen) ?_
    rintro d V ⟨rfl, hV, v1, v2, v3, v4, v5⟩
    refine ⟨rfl, hV, v1, ?_, v3, fun j t cs h1 h2 e => v4 j t cs h1 h2 e, v5⟩
    rw [out_succ hi]
    exact v2
  refine DCalls.mono key ?_
  rintro d T ⟨rfl, hr2, hn2, ⟨T0, hE0, hb0, hr0⟩, hb2, hw2⟩
  rw [kept_done] at hr2
  rw [List.take_length] at hE0
  obtain ⟨own, o1, o2⟩ := hE0
  have o3 := hb0 _ _ _ (by omega) o1
  (simp (disch := first | decide | omega | (simp only [nx]; first | done | omega)) only [go_sem, o3]; (repeat with_reducible refine aI ?_))
  have hfr : FrW k S T := ⟨by have := hsub.next; omega, fun j t cs hj e => hb2 j t cs hj (by have := hS.lt e; omega) (hsub.ob j _ e), fun j e n h1 h2 h3 => hw2 j e n h1 h2 (hsub.ob j _ h3)⟩
  exact ⟨⟨own, rfl⟩, hr2, hfr⟩
end
end Go.Proofs.YtonncfminojejaaDoor

namespace Go.Proofs.YtonncfminojejaaDoor
open Go.RowKit
def addN (gs : List DGst) (size : Nat) (n : H32) (l : List H32) : Nat := if hasG gs n then 8 else if l = [] then 1 else if gs.length = size then 12 else 0
def addG (gs : List DGst) (size : Nat) (n : H32) (b : List UInt8) (l : List H32) : List DGst := if addN gs size n l = 0 then gs ++ [⟨n, b, sortH l⟩] else gs
def erO (n : Nat) : D := if n = 0 then .v .nilIface else erD (n : Int)
theorem bg1 (n : H32) (x y B : D) : (n.1.map bD ++ [x, y]).take 32 ++ [B] ++ (n.1.map bD ++ [x, y]).drop 33 = n.1.map bD ++ [B, y] := by
  have h := len_encH n
  rw [List.take_append_of_le_length (by omega), List.take_of_length_le (by omega), List.drop_append, List.drop_of_length_le (by omega), h]
  simp
theorem bg2 (n : H32) (B y L : D) : (n.1.map bD ++ [B, y]).take 33 ++ [L] ++ (n.1.map bD ++ [B, y]).drop 34 = n.1.map bD ++ [B, L] := by
  have h := len_encH n
  rw [List.take_append, List.take_of_length_le (by omega), List.drop_append, List.drop_of_length_le (by omega), h]
  simp
section
set_option maxRecDepth 200000
set_option maxHeartbeats 8000000
theorem add_at {S : St} {k : Nat} {gs : List DGst} {size : Nat} (hrm : RoomAt k gs size S) (hl : gs.length ≤ 1000000) (n : H32) (ob ol : Own) (b : List UInt8) (l : List H32) (hb : b.length ≤ 1000000) (hll : l.length ≤ 1000000) :
    DCalls Tryd.prog 20 [.loc k 0, encH n, .sl ob (b.map bD), .sl ol (l.map encH)] S fun d T => d = erO (addN gs size n l) ∧ RoomAt k (addG gs size n b l) size T ∧ FrW k S T := by
  obtain ⟨own, h1, h2⟩ := hrm.ex
  refine dcalls_inline mixed Tryd.func20 rfl (fun _ _ => by kernel_rfl) (rs := [.tmp 8]) rfl (by kernel_rfl) (fun hS => ?_)
  have hkl := hS.lt h1
  have ln := n.2
  (simp (disch := first | decide | omega | (simp only [nx]; first | done | omega)) only [go_sem, ln]; (repeat with_reducible refine aI ?_))
  have hsub : S.Sub (S.add (.box 37 (n.1.map bD))) := (St.Sub.refl S).add hS _
  have hrm1 : RoomAt k gs size (S.add (.box 37 (n.1.map bD))) := hrm.mono hsub.ob
  have hrf : ∀ T : St, T = S.add (.box 37 (n.1.map bD)) → FrW k S T := fun T e => e ▸ FrW.of_sub hsub
  refine go_at (has_at hrm1 hl n) ?_
  cases hh : hasG gs n with
  | true =>
    (simp (disch := first | decide | omega | (simp only [nx]; first | done | omega)) only [go_sem]; (repeat with_reducible refine aI ?_))
    have e1 : addN gs size n l = 8 := by simp [addN, hh]
    have e2 : addG gs size n b l = gs := by simp [addG, e1]
    rw [e1, e2]
    exact ⟨rfl, hrm1, FrW.of_sub hsub⟩
  | false =>
    by_cases h0 : l = []
    · subst h0
      have c1 : ((([] : List H32).length : Int) == 0) = true := by decide
      (simp (disch := first | decide | omega | (simp only [nx]; first | done | omega)) only [go_sem, c1]; (repeat with_reducible refine aI ?_))
      have e1 : addN gs size n [] = 1 := by simp [addN, hh]
      have e2 : addG gs size n b [] = gs := by simp [addG, e1]
      rw [e1, e2]
      exact ⟨rfl, hrm1, FrW.of_sub hsub⟩
    · have c1 : ((l.length : Int) == 0) = false := by
        have := List.length_pos_iff.2 h0
        rw [beq_eq_false_iff_ne]; omega
      (simp (disch := first | decide | omega | (simp only [nx]; first | done | omega)) only [go_sem, c1]; (repeat with_reducible refine aI ?_))
      refine ddraw_mk 10 (by kernel_rfl) ?_
      have h1' := hsub.ob _ _ h1
      by_cases hf : gs.length = size
      · have c2 : (((gs.length : Nat) : Int) == ((size : Nat) : Int)) = true := by rw [hf]; exact beq_self_eq_true _
        (simp (disch := first | decide | omega | (simp only [nx]; first | done | omega)) only [go_sem, h1', c2]; (repeat with_reducible refine aI ?_))
        have e1 : addN gs size n l = 12 := by simp [addN, hh, h0, hf]
        have e2 : addG gs size n b l = gs := by simp [addG, e1]
        rw [e1, e2]
        exact ⟨rfl, hrm1, FrW.of_sub hsub⟩
      · have c2 : (((gs.length : Nat) : Int) == ((size : Nat) : Int)) = false := by
          rw [beq_eq_false_iff_ne]; omega
        (simp (disch := first | decide | omega | (simp only [nx]; first | done | omega)) only [go_sem, h1', c2]; (repeat with_reducible refine aI ?_))
        have e1 : addN gs size n l = 0 := by simp [addN, hh, h0, hf]
        have e2 : addG gs size n b l = gs ++ [⟨n, b, sortH l⟩] := by simp [addG, e1]
        rw [e1, e2]
        have hn1 : (S.add (.box 37 (n.1.map bD))).ob S.next = some (.box 37 (n.1.map bD)) := by (first | (simp (disch := first | decide | omega | (simp only [nx]; first | done | omega)) only [go_sem]; first | done | rfl) | rfl)
        have hW : (S.add (.box 37 (n.1.map bD))).WF := hS.add _
        have h2' : own = .full ∧ gs = [] ∨ ∃ g, own = .row g ∧ (S.add (.box 37 (n.1.map bD))).ob g = some (.row 62 gs.length) := by
          rcases h2 with h2 | ⟨g, h2, h3⟩
          · exact .inl h2
          · exact .inr ⟨g, h2, hsub.ob _ _ h3⟩
        have hnx : S.next < (S.add (.box 37 (n.1.map bD))).next := Nat.lt_succ_self _
        generalize S.add (.box 37 (n.1.map bD)) = S1 at *
        refine ddraw_any (fun S' => S'.ob k = some (.box 57 [.sl own (gs.map encG), .v (.int .i64 ((size : Nat) : Int))]) ∧ S'.ob S.next = some (.box 37 (n.1.map bD))) 15 (by (first | (simp (disch := first | decide | omega | (simp only [nx]; first | done | omega)) only [go_sem, h1', hn1, true_and, and_true]; first | done | rfl) | rfl)) (by kernel_rfl) ?_
        (refine s_take 0 rfl (by kernel_rfl) (by kernel_rfl) (v := ?v1) (fun S' hz => dquietR_of ?h1) <| s_take 1 rfl (by kernel_rfl) (by kernel_rfl) (v := ?v2) (fun S' hz => dquietR_of ?h2) <| s_take 2 rfl (by kernel_rfl) (by kernel_rfl) (v := ?v3) (fun S' hz => dquietR_of ?h3) <| s_take 3 rfl (by kernel_rfl) (by kernel_rfl) (v := ?v4) (fun S' hz => dquietR_of ?h4) <| s_take 4 rfl (by kernel_rfl) (by kernel_rfl) (v := ?v5) (fun S' hz => dquietR_of ?h5) <| s_take 5 rfl (by kernel_rfl) (by kernel_rfl) (v := ?v6) (fun S' hz => dquietR_of ?h6) <| s_take 6 rfl (by kernel_rfl) (by kernel_rfl) (v := ?v7) (fun S' hz => dquietR_of ?h7) <| ?k7; (case h1 | h2 | h3 | h4 | h5 | h6 | h7 => ((simp (disch := first | decide | omega | (simp only [nx]; first | done | omega)) only [go_sem, hz.1, hz.2, ln, hz]; (repeat with_reducible refine aI ?_)); first | done | exact rfl | omega)))
        refine s_take 7 rfl (by kernel_rfl) (by kernel_rfl) (v := ?vqa) (fun S' hz => dquietR_of ?hqa) ?kqa; (case hqa => ((simp (disch := first | decide | omega | (simp only [nx]; first | done | omega)) only [go_sem, hz.1, hz.2]; (repeat with_reducible refine aI ?_)); refine dqgo_mk (clone_d ob b hb) ?_; exact rfl))
        (refine s_take 8 rfl (by kernel_rfl) (by kernel_rfl) (v := ?v8) (fun S' hz => dquietR_of ?h8) ?k8; (case h8 => ((simp (disch := first | decide | omega | (simp only [nx]; first | done | omega)) only [go_sem, hz.1, hz.2, ln, hz]; (repeat with_reducible refine aI ?_)); first | done | exact rfl | omega)))
        refine s_take 9 rfl (by kernel_rfl) (by kernel_rfl) (v := ?vqb) (fun S' hz => dquietR_of ?hqb) ?kqb; (case hqb => ((simp (disch := first | decide | omega | (simp only [nx]; first | done | omega)) only [go_sem, hz.1, hz.2]; (repeat with_reducible refine aI ?_)); refine dqgo_mk (hsort_d ol l hll) ?_; exact rfl))
        refine s_take 10 rfl (by kernel_rfl) (by kernel_rfl) (v := encG ⟨n, b, sortH l⟩) (fun S' hz => dquietR_of ?hqc) ?kqc; (case hqc => ((simp (disch := first | decide | omega | (simp only [nx]; first | done | omega)) only [go_sem, hz.1, hz.2, ln]; (repeat with_reducible refine aI ?_)); rw [bg1, bg2]; exact ⟨⟨by rw [List.length_append, len_encH]; exact Nat.le_succ _, by rw [List.length_append, len_encH]; exact Nat.le_refl _⟩, rfl⟩))
        (refine s_take 11 rfl (by kernel_rfl) (by kernel_rfl) (v := ?v9) (fun S' hz => dquietR_of ?h9) ?k9; (case h9 => ((simp (disch := first | decide | omega | (simp only [nx]; first | done | omega)) only [go_sem, hz.1, hz.2, ln, hz]; (repeat with_reducible refine aI ?_)); first | done | exact rfl | omega)))
        (refine s_split [12] (by kernel_rfl) (by simp) ?_; intro j_ hj_; obtain rfl : j_ = 12 := (by simpa using hj_); clear hj_; refine s_op rfl ?_; (simp (disch := first | decide | omega | (simp only [nx]; first | done | omega)) only [go_sem]; (repeat with_reducible refine aI ?_)))
        have hlo : (gs.map encG).length = gs.length := List.length_map _
        have hrowG : GRow own gs.length S1 := by
          rcases h2' with ⟨e1, e2⟩ | e
          · exact .inl ⟨e1, by rw [e2]; rfl⟩
          · exact .inr e
        have hrowA : own = .full ∨ ∃ g, own = .row g ∧ S1.ob g = some (.row 62 (gs.map encG).length) := by
          rw [hlo]
          rcases hrowG with ⟨e1, _⟩ | e
          · exact .inl e1
          · exact .inr e
        refine app_more elGs zeGs hrowA (by rw [szGs]; exact wGs _) (by rw [szGs]; exact fun d hd => by obtain rfl := List.mem_singleton.1 hd; exact width_encG _) (by rw [List.length_map]; simp; omega) (by rw [List.length_map, byGs]; simp; omega) ?_
        rw [hlo]
        have gk : ∀ j o, S1.ob j = some o → (∀ n, o ≠ .row 62 n) → (S1.grow own 62 (gs.length + 1)).ob j = some o := fun j o e ho => grow_keepG hW hrowG e ho
        have z1 := gk k _ h1' (fun n h => by cases h)
        have z2 := gk S.next _ hn1 (fun n h => by cases h)
        refine ⟨⟨z1, z2⟩, ?_⟩
        (refine s_take 13 rfl (by kernel_rfl) (by kernel_rfl) (v := ?v10) (fun S' hz => dquietR_of ?h10) <| s_take 14 rfl (by kernel_rfl) (by kernel_rfl) (v := ?v11) (fun S' hz => dquietR_of ?h11) <| ?k11; (case h10 | h11 => ((simp (disch := first | decide | omega | (simp only [nx]; first | done | omega)) only [go_sem, hz.1, hz.2, hz]; (repeat with_reducible refine aI ?_)); first | done | exact rfl | omega)))
        (refine s_done (by kernel_rfl) ?_; (simp (disch := first | decide | omega | (simp only [nx]; first | done | omega)) only [go_sem, z1, z2]; (repeat with_reducible refine aI ?_)))
        have hgn : (S1.grow own 62 (gs.length + 1)).next = S1.next + 1 := grow_next _ _ _ _
        have hk1 := hW.lt h1'
        refine ⟨rfl, ⟨.row S1.next, ?_, .inr ⟨S1.next, rfl, ?_⟩⟩, ⟨?_, ?_, ?_⟩⟩
        · rw [set_ob, if_pos rfl, List.map_append]; rfl
        · rw [set_ob, if_neg (by omega), List.length_append]
          exact growM_hit
        · show S.next ≤ (S1.grow own 62 (gs.length + 1)).next
          rw [hgn]
          omega
        · intro j t cs hj e
          rw [set_ob, if_neg hj]
          exact gk j _ (hsub.ob j _ e) fun n h => by cases h
        · intro j e' n' h1'' h2'' e
          have e3 := hsub.ob j _ e
          rw [set_ob, if_neg (fun e4 => by rw [e4, h1'] at e3; cases e3)]
          exact gk j _ e3 fun n h => by injection h with h _; exact h1'' h
end
end Go.Proofs.YtonncfminojejaaDoor

namespace Go.Proofs.YtonncfminojejaaDoor
open Go.RowKit
section
variable {P : Program} {t : TypeId} {x y : Operand}
theorem bin_or (k : IntKind) (a b : Int) : dbin P .or t x y (.v (.int k a)) (.v (.int k b)) = some (True, .v (.int k (bits .or k a b))) := by
  simp [dbin, eqGuard, binOp, intBits_or, pureRun_bind, pureRun_pure]
theorem bin_xor (k : IntKind) (a b : Int) : dbin P .xor t x y (.v (.int k a)) (.v (.int k b)) = some (True, .v (.int k (bits .xor k a b))) := by
  simp [dbin, eqGuard, binOp, intBits_xor, pureRun_bind, pureRun_pure]
theorem bin_andNot (k : IntKind) (a b : Int) : dbin P .andNot t x y (.v (.int k a)) (.v (.int k b)) = some (True, .v (.int k (bits .andNot k a b))) := by
  simp [dbin, eqGuard, binOp, intBits_andNot, pureRun_bind, pureRun_pure]
theorem bin_shr7 (a : Nat) : dbin P .shr t x y (.v (.int .u64 a)) (.v (.int .u64 7)) = some (True, .v (.int .u64 ((a / 128 : Nat) : Int))) := by
  simp [dbin, eqGuard, binOp, shift_shr .u64 .u64 (a : Int) 7 (by omega) (by decide), pureRun_bind, pureRun_pure]
theorem bin_shr63 (a : Int) : dbin P .shr t x y (.v (.int .i64 a)) (.v (.int .u64 63)) = some (True, .v (.int .i64 (a / 9223372036854775808))) := by
  simp [dbin, eqGuard, binOp, shift_shr .i64 .u64 a 63 (by omega) (by decide), pureRun_bind, pureRun_pure]
theorem bin_shl1 (a : Int) : dbin P .shl t x y (.v (.int .u64 a)) (.v (.int .u64 1)) = some (True, .v (.int .u64 (IntKind.u64.wrap (a * 2)))) := by
  simp [dbin, eqGuard, binOp, Op.shift, IntKind.bits, pureRun_bind, pureRun_pure]
end
theorem cv_u64u8 (n : Int) : pureRun Tryd.prog (convert 135 5 (.int .u64 n)) = some (.int .u8 (IntKind.u8.wrap n)) := by kernel_rfl
theorem cv_i64u64 (n : Int) : pureRun Tryd.prog (convert 3 135 (.int .i64 n)) = some (.int .u64 (IntKind.u64.wrap n)) := by kernel_rfl
theorem cv_u64i64 (n : Int) : pureRun Tryd.prog (convert 135 3 (.int .u64 n)) = some (.int .i64 (IntKind.i64.wrap n)) := by kernel_rfl
theorem cv_u8u64 (n : Int) : pureRun Tryd.prog (convert 5 135 (.int .u8 n)) = some (.int .u64 (IntKind.u64.wrap n)) := by kernel_rfl
theorem cv_i64u8 (n : Int) : pureRun Tryd.prog (convert 3 5 (.int .i64 n)) = some (.int .u8 (IntKind.u8.wrap n)) := by kernel_rfl
theorem u8T_u8 : u8T Tryd.prog 5 = true := by kernel_rfl
attribute [go_sem] u8T_u8
attribute [go_sem] bin_or bin_xor bin_andNot bin_shr7 bin_shr63 bin_shl1 cv_u64u8 cv_i64u64 cv_u64i64 cv_u8u64 cv_i64u8
end Go.Proofs.YtonncfminojejaaDoor

namespace Go.Proofs.YtonncfminojejaaDoor
open Go.RowKit
theorem bD_eq (b : UInt8) : bD b = .v (.int .u8 (b.toNat : Int)) := rfl
section
variable {P : Program} {f : Fm} {S : St}
theorem pfin_ret3 (t u v : Tmp) (S' : St) (d : D) : DQ.pfin P [.tmp t, .tmp u, .tmp v] S d .ret f S' = PFin S S' (.tup [f t, f u, f v]) d := by
  simp [DQ.pfin, dresL, dres, onVal, one]
theorem pfin_normal3 (t u v : Tmp) (S' : St) (d : D) : DQ.pfin P [.tmp t, .tmp u, .tmp v] S d .normal f S' = PFin S S' (.tup [f t, f u, f v]) d := by
  simp [DQ.pfin, dresL, dres, onVal, one]
end
attribute [go_sem] pfin_ret3 pfin_normal3
end Go.Proofs.YtonncfminojejaaDoor

namespace Go.Proofs.YtonncfminojejaaDoor
open Go.RowKit
theorem u8ne (x y : UInt8) : ((x.toNat : Int) != (y.toNat : Int)) = !decide (x = y) := by
  by_cases h : x = y
  · subst h; simp
  · have : ¬ ((x.toNat : Int) = (y.toNat : Int)) := fun e => h (UInt8.toNat_inj.1 (by omega))
    simp [h, this, bne]
set_option maxRecDepth 200000 in
set_option maxHeartbeats 8000000 in
theorem bytesEq_d (own own2 : Own) (p q : List UInt8) (hp : p.length ≤ 1000000) (hq : q.length ≤ 1000000) : DPure Tryd.prog 22 [.sl own (p.map bD), .sl own2 (q.map bD)] (.v (.bool (decide (p = q)))) := by
  refine dpure_of_dwp mixed Tryd.func22 rfl (fun _ _ => by kernel_rfl) (rs := [.tmp 4]) rfl (by kernel_rfl) trivial (fun S hS => ?_)
  by_cases hl : p.length = q.length
  · have b0 : ((p.length : Int) != (q.length : Int)) = false := by simp [hl]
    (simp (disch := first | decide | omega | (simp only [nx]; first | done | omega)) only [go_sem, b0]; (repeat with_reducible refine aI ?_))
    (refine dloop_st (fun t => List.contains [4, 5, 11, 12, 13, 14, 15, 16, 17, 18, 19, 20, 21, 22, 23, 24, 25] t) (by kernel_rfl) ?_ (p.length) (fun i f => i ≤ p.length ∧ f 5 = .v (.int .i64 (i : Nat)) ∧ (∀ j, j < i → p[j]? = q[j]?)) ?_ ?_; (exact (by (repeat' first | assumption | refine St.WF.leave ?_ _ | refine St.WF.add ?_ _ | refine St.WF.set ?_ ?_ _ | refine St.WF.grow ?_ _ _ _ | refine St.WF.keep ?_ ?_ | (first | omega | (simp only [RowOk.lo, nx]; first | done | omega))))); (exact ⟨(by omega), (by (first | (simp (disch := first | decide | omega | (simp only [nx]; first | done | omega)) only [go_sem]; first | done | rfl) | rfl)), (fun j hj => by omega)⟩); intro i g tn hn hT hg hI; obtain ⟨le, q5, hsame⟩ := hI; have q0 := hg 0 rfl; have q1 := hg 1 rfl; simp (disch := first | decide | omega | (simp only [nx]; first | done | omega)) only [go_sem] at q0 q1; clear hg; have hn' := hn; try simp only [add_next, set_next, grow_next, leave_next, drop_next] at hn')
    by_cases hlt : i < p.length
    · have b1 : decide ((i : Int) < (p.length : Int)) = true := by simp; omega
      have w1 : IntKind.i64.wrap ((i : Int) + 1) = ((i + 1 : Nat) : Int) := IntWalk.i64_in _ ⟨by omega, by omega⟩
      have hlt2 : i < q.length := by omega
      by_cases hx : p[i] = q[i]
      · have b2 : (!decide (p[i] = q[i])) = false := by simp [hx]
        (simp (disch := first | decide | omega | (simp only [nx]; first | done | omega)) only [go_sem, q0, q1, q5, b1, w1]; (repeat with_reducible refine aI ?_))
        refine ddraw_mk 9 (by kernel_rfl) ?_
        (simp (disch := first | decide | omega | (simp only [nx]; first | done | omega)) only [go_sem, q0, q1, q5, b1, b2, w1, bD_eq, u8ne]; (repeat with_reducible refine aI ?_))
        (refine ⟨by omega, (by (repeat' first | assumption | exact St.Sub.refl _ | exact RowOk.sub (by assumption) (by assumption) | refine St.Sub.trans ?_ (RowOk.sub (by assumption) (by assumption)) | refine St.Sub.add ?_ ?_ _ | refine St.Sub.set ?_ ?_ ?_ _ | refine St.Sub.keep ?_ ?_ | refine St.WF.leave ?_ _ | refine St.WF.add ?_ _ | refine St.WF.set ?_ ?_ _ | refine St.WF.grow ?_ _ _ _ | refine St.WF.keep ?_ ?_ | (first | omega | (simp only [RowOk.lo, nx]; first | done | omega)))), ?_⟩; refine ⟨by omega, ?_, ?_⟩; all_goals (try (first | (simp (disch := first | decide | omega | (simp only [nx]; first | done | omega)) only [go_sem, w1]; first | done | rfl) | rfl)))
        intro j hj
        by_cases e : j = i
        · subst e; rw [List.getElem?_eq_getElem hlt, List.getElem?_eq_getElem hlt2, hx]
        · exact hsame j (by omega)
      · have b2 : (!decide (p[i] = q[i])) = true := by simp [hx]
        (simp (disch := first | decide | omega | (simp only [nx]; first | done | omega)) only [go_sem, q0, q1, q5, b1]; (repeat with_reducible refine aI ?_))
        refine ddraw_mk 9 (by kernel_rfl) ?_
        (simp (disch := first | decide | omega | (simp only [nx]; first | done | omega)) only [go_sem, q0, q1, q5, b1, b2, bD_eq, u8ne]; (repeat with_reducible refine aI ?_))
        refine ⟨?_, (by (repeat' first | assumption | exact St.Sub.refl _ | exact RowOk.sub (by assumption) (by assumption) | refine St.Sub.trans ?_ (RowOk.sub (by assumption) (by assumption)) | refine St.Sub.add ?_ ?_ _ | refine St.Sub.set ?_ ?_ ?_ _ | refine St.Sub.keep ?_ ?_ | refine St.WF.leave ?_ _ | refine St.WF.add ?_ _ | refine St.WF.set ?_ ?_ _ | refine St.WF.grow ?_ _ _ _ | refine St.WF.keep ?_ ?_ | (first | omega | (simp only [RowOk.lo, nx]; first | done | omega))))⟩
        rw [decide_eq_false]
        · rfl
        · intro e; subst e; exact hx rfl
    · have b1 : decide ((i : Int) < (p.length : Int)) = false := by simp; omega
      (simp (disch := first | decide | omega | (simp only [nx]; first | done | omega)) only [go_sem, q0, q1, q5, b1]; (repeat with_reducible refine aI ?_))
      refine ⟨?_, (by (repeat' first | assumption | exact St.Sub.refl _ | exact RowOk.sub (by assumption) (by assumption) | refine St.Sub.trans ?_ (RowOk.sub (by assumption) (by assumption)) | refine St.Sub.add ?_ ?_ _ | refine St.Sub.set ?_ ?_ ?_ _ | refine St.Sub.keep ?_ ?_ | refine St.WF.leave ?_ _ | refine St.WF.add ?_ _ | refine St.WF.set ?_ ?_ _ | refine St.WF.grow ?_ _ _ _ | refine St.WF.keep ?_ ?_ | (first | omega | (simp only [RowOk.lo, nx]; first | done | omega))))⟩
      rw [decide_eq_true]
      · rfl
      · refine List.ext_getElem? fun j => ?_
        by_cases hj : j < i
        · exact hsame j hj
        · rw [List.getElem?_eq_none (by omega), List.getElem?_eq_none (by omega)]
  · have b0 : ((p.length : Int) != (q.length : Int)) = true := by simp; omega
    (simp (disch := first | decide | omega | (simp only [nx]; first | done | omega)) only [go_sem, b0]; (repeat with_reducible refine aI ?_))
    refine ⟨?_, (by (repeat' first | assumption | exact St.Sub.refl _ | exact RowOk.sub (by assumption) (by assumption) | refine St.Sub.trans ?_ (RowOk.sub (by assumption) (by assumption)) | refine St.Sub.add ?_ ?_ _ | refine St.Sub.set ?_ ?_ ?_ _ | refine St.Sub.keep ?_ ?_ | refine St.WF.leave ?_ _ | refine St.WF.add ?_ _ | refine St.WF.set ?_ ?_ _ | refine St.WF.grow ?_ _ _ _ | refine St.WF.keep ?_ ?_ | (first | omega | (simp only [RowOk.lo, nx]; first | done | omega))))⟩
    rw [decide_eq_false]
    · rfl
    · intro e; subst e; exact hl rfl
end Go.Proofs.YtonncfminojejaaDoor

namespace Go.Proofs.YtonncfminojejaaDoor
open Go.RowKit
section
set_option maxRecDepth 200000
set_option maxHeartbeats 8000000
theorem new_some (n : Nat) (hn : n ≤ 32) {S : St} : DCalls Tryd.prog 8 [.v (.int .i64 (n : Int))] S fun d T => d = .tup [.loc S.next 0, .v .nilIface] ∧ RoomAt S.next [] n T ∧ S.Sub T := by
  refine dcalls_inline mixed Tryd.func8 rfl (fun _ _ => by kernel_rfl) (rs := [.tmp 2, .tmp 3]) rfl (by kernel_rfl) (fun hS => ?_)
  have b1 : decide ((n : Int) < 0) = false := decide_eq_false (by omega)
  have b2 : decide ((32 : Int) < (n : Int)) = false := decide_eq_false (by omega)
  (simp (disch := first | decide | omega | (simp only [nx]; first | done | omega)) only [go_sem, b1, b2]; (repeat with_reducible refine aI ?_))
  exact ⟨⟨.full, by (first | (simp (disch := first | decide | omega | (simp only [nx]; first | done | omega)) only [go_sem]; first | done | rfl) | rfl), .inl ⟨rfl, rfl⟩⟩, (St.Sub.refl S).add hS _⟩
theorem bnil_ne (k : Nat) : dbin Tryd.prog .neq 27 (.tmp k) (.const .nilIface) (.v .nilIface) (.v .nilIface) = some (True, .v (.bool false)) := by kernel_rfl
theorem placeH : placeT Tryd.prog 37 = some fun i => some (i * 1, 1) := by kernel_rfl
def hA : H32 := ⟨1 :: List.replicate 31 0, rfl⟩
def hB : H32 := ⟨2 :: List.replicate 31 0, rfl⟩
theorem add2_set (T : St) (x y x' y' : Ob) : (((T.add x).add y).set T.next x').set (T.next + 1) y' = (T.add x').add y' := by
  have h : ∀ j, ((((T.add x).add y).set T.next x').set (T.next + 1) y').ob j = ((T.add x').add y').ob j := fun j => by
    rw [set_ob, set_ob, add_ob, add_ob, add_ob, add_ob]
    show (if j = T.next + 1 then some y' else if j = T.next then some x' else if j = T.next + 1 then some y else if j = T.next then some x else T.ob j) = if j = T.next + 1 then some y' else if j = T.next then some x' else T.ob j
    by_cases h1 : j = T.next + 1
    · rw [if_pos h1, if_pos h1]
    · by_cases h2 : j = T.next
      · rw [if_neg h1, if_pos h2, if_neg h1, if_pos h2]
      · rw [if_neg h1, if_neg h2, if_neg h1, if_neg h2, if_neg h1, if_neg h2]
  have h2 : ((((T.add x).add y).set T.next x').set (T.next + 1) y').ob = ((T.add x').add y').ob := funext h
  show St.mk _ _ = St.mk _ _
  congr 1
def gA : DGst := ⟨hB, [98], [hA]⟩
theorem aw1 : addN [] 3 hB [hA] = 0 := by decide +kernel
theorem aw2 : addG [] 3 hB [98] [hA] = [gA] := by
  unfold addG
  rw [aw1, if_pos rfl]
  have : sortH [hA] = [hA] := by decide +kernel
  rw [this]
  rfl
theorem aw3 : missG [gA] = [hA] := by decide +kernel
theorem aw4 : outG [gA] hA = [[98]] := by decide +kernel
theorem aw5 : (doneG [gA] hA).length = 0 := by decide +kernel
theorem gok_A : GOk [gA] := fun g hg => by
  obtain rfl := List.mem_singleton.1 hg
  exact ⟨by simp [gA], List.pairwise_singleton _ _, by decide, by decide⟩
theorem bnil_eq (k : Nat) : dbin Tryd.prog .eql 27 (.tmp k) (.const .nilIface) (.v .nilIface) (.v .nilIface) = some (True, .v (.bool true)) := by kernel_rfl
theorem awake_d : DPure Tryd.prog 7 [] (.v (.bool true)) := by
  refine dpure_nil (by trivial) (dat_of_dwpL mixed Tryd.func7 rfl (fun _ _ => by kernel_rfl) (rs := [.tmp 0]) rfl (by kernel_rfl) (by trivial) (fun hS => ?_))
  (simp (disch := first | decide | omega | (simp only [nx]; first | done | omega)) only [go_sem]; (repeat with_reducible refine aI ?_))
  refine DCalls.mono (DCalls.wf (new_some 3 (by omega) (S := St.nil))) ?_
  rintro d T ⟨⟨rfl, hrm, hsub⟩, hT⟩
  (simp (disch := first | decide | omega | (simp only [nx]; first | done | omega)) only [go_sem, bnil_ne, placeH]; (repeat with_reducible refine aI ?_))
  refine dlit_mk [98] elBy (by kernel_rfl) zeBy szBy (by decide) rfl rfl ?_
  (simp (disch := first | decide | omega | (simp only [nx]; first | done | omega)) only [go_sem]; (repeat with_reducible refine aI ?_))
  rw [add2_set]
  have hs2 : T.Sub ((T.add (.box 37 (hA.1.map bD))).add (.box 37 (hB.1.map bD))) := ((St.Sub.refl T).add hT _).add hT _
  have hrm1 := hrm.mono hs2.ob
  refine DCalls.mono (DCalls.wf (add_at hrm1 (by decide) hB .no .full [98] [hA] (by decide) (by decide))) ?_
  rintro d T1 ⟨⟨rfl, hr1, hf1⟩, hT1⟩
  rw [aw1]
  rw [aw2] at hr1
  have x1 : T1.ob T.next = some (.box 37 (hA.1.map bD)) := hf1.box _ _ _ (by have := hsub.next; have := hsub.ob; intro e; obtain ⟨_, hq, _⟩ := hrm.ex; have := hT.lt hq; omega) (by (first | (simp (disch := first | decide | omega | (simp only [nx]; first | done | omega)) only [go_sem]; first | done | rfl) | rfl))
  have ez : erO 0 = .v .nilIface := rfl
  rw [ez]
  (simp (disch := first | decide | omega | (simp only [nx]; first | done | omega)) only [go_sem]; (repeat with_reducible refine aI ?_))
  refine go_at (missing_at hr1 (by decide) (by decide)) ?_
  rw [aw3]
  have lA : hA.1.length = 32 := hA.2
  (simp (disch := first | decide | omega | (simp only [nx]; first | done | omega)) only [go_sem, x1, lA]; (repeat with_reducible refine aI ?_))
  refine DCalls.mono (DCalls.wf (done_at hr1 (by decide) gok_A hA)) ?_
  rintro d T2 ⟨⟨rfl, hr2, hf2⟩, hT2⟩
  rw [aw4]
  have x2 : T2.ob T.next = some (.box 37 (hA.1.map bD)) := hf2.box _ _ _ (by intro e; obtain ⟨_, hq, _⟩ := hrm.ex; have := hT.lt hq; omega) x1
  (simp (disch := first | decide | omega | (simp only [nx]; first | done | omega)) only [go_sem, bnil_eq, x2, lA]; (repeat with_reducible refine aI ?_))
  refine DCalls.of_pure (hashes_d .no .full [hA] [hA] (by decide)) ?_
  have c1 : decide ([hA] = [hA]) = true := decide_eq_true rfl
  have c2 : (((1 : Nat) : Int) == 1) = true := by decide
  have c3 : (encB [98]).cells.length = 1 := rfl
  have c4 : (0 : Int) < ((1 : Nat) : Int) := by decide
  have c7 : (encB [98]).cells.getD 0 undefD = .sl .no (([98] : List UInt8).map bD) := rfl
  (simp (disch := first | decide | omega | (simp only [nx]; first | done | omega)) only [go_sem, bnil_eq, x2, lA, c1, c2, c3, c4, c7, Nat.lt_add_one]; (repeat with_reducible refine aI ?_))
  refine dlit_mkG (tj := 45) [98] elBy ?a1 zeBy szBy ?a2 ?a3 ?a4 ?a5 ?a6 ?_
  case a1 => kernel_rfl
  case a2 => decide
  case a3 => rfl
  case a4 => rfl
  case a5 => rfl
  case a6 => (first | (simp (disch := first | decide | omega | (simp only [nx]; first | done | omega)) only [go_sem]; first | done | rfl) | rfl)
  (simp (disch := first | decide | omega | (simp only [nx]; first | done | omega)) only [go_sem]; (repeat with_reducible refine aI ?_))
  refine DCalls.of_pure (bytesEq_d .no .no [98] [98] (by decide) (by decide)) ?_
  have c5 : decide (([98] : List UInt8) = [98]) = true := decide_eq_true rfl
  (simp (disch := first | decide | omega | (simp only [nx]; first | done | omega)) only [go_sem, c5]; (repeat with_reducible refine aI ?_))
  refine go_at (len_at hr2) ?_
  rw [aw5]
  have c6 : (((0 : Nat) : Int) == 0) = true := by decide
  (simp (disch := first | decide | omega | (simp only [nx]; first | done | omega)) only [go_sem, c6]; (repeat with_reducible refine aI ?_))
  exact ⟨rfl, Nat.zero_le _, fun _ _ h => by cases h⟩
end
end Go.Proofs.YtonncfminojejaaDoor

namespace Go.Proofs.YtonncfminojejaaDoor
open Go.RowKit
def rwCs (r : DRow) : List D := r.1.1.map bD ++ r.2.1.map bD
def encRw (r : DRow) : D := .agg (rwCs r)
def guCs (g : DGu) : List D := g.1.1.map bD ++ [.sl .no (g.2.map bD)]
def encGu (g : DGu) : D := .agg (guCs g)
theorem cells_encRw (g : DRow) : (encRw g).cells = rwCs g := rfl
theorem cells_encGu (g : DGu) : (encGu g).cells = guCs g := rfl
theorem len_rwCs (g : DRow) : (rwCs g).length = 64 := by simp [rwCs, g.1.2, g.2.2]
theorem len_guCs (g : DGu) : (guCs g).length = 33 := by simp [guCs, g.1.2]
theorem width_encRw (g : DRow) : (encRw g).width = 64 := len_rwCs g
theorem width_encGu (g : DGu) : (encGu g).width = 33 := len_guCs g
theorem okCell_encRw (g : DRow) : (encRw g).okCell = true := rfl
theorem okCell_encGu (g : DGu) : (encGu g).okCell = true := rfl
theorem take_rwCs (g : DRow) : (rwCs g).take 64 = rwCs g := List.take_of_length_le (by rw [len_rwCs]; omega)
theorem take_guCs (g : DGu) : (guCs g).take 33 = guCs g := List.take_of_length_le (by rw [len_guCs]; omega)
theorem agg_rwCs (g : DRow) : D.agg (rwCs g) = encRw g := rfl
theorem agg_guCs (g : DGu) : D.agg (guCs g) = encGu g := rfl
theorem name_rwCs (g : DRow) : (rwCs g).take 32 = g.1.1.map bD := by
  rw [rwCs, List.take_append_of_le_length (by rw [len_encH]; omega), take_hash]
theorem for_rwCs (g : DRow) : ((rwCs g).drop 32).take 32 = g.2.1.map bD := by
  rw [rwCs, List.drop_append, List.drop_of_length_le (by rw [len_encH]; omega), List.nil_append, len_encH, Nat.sub_self, List.drop_zero, take_hash]
theorem name_guCs (g : DGu) : (guCs g).take 32 = g.1.1.map bD := by
  rw [guCs, List.take_append_of_le_length (by rw [len_encH]; omega), take_hash]
theorem b_guCs (g : DGu) : (guCs g).getD 32 undefD = .sl .no (g.2.map bD) := by
  rw [guCs, List.getD_eq_getElem?_getD, List.getElem?_append_right (by rw [len_encH]; omega), len_encH]; rfl
attribute [go_sem] cells_encRw cells_encGu len_rwCs len_guCs width_encRw width_encGu okCell_encRw okCell_encGu take_rwCs take_guCs agg_rwCs agg_guCs name_rwCs for_rwCs name_guCs b_guCs
theorem elRw : elT Tryd.prog 31 = some 75 := by kernel_rfl
theorem szRw : szOf Tryd.prog 75 = 64 := by kernel_rfl
theorem byRw : bytesOf Tryd.prog 75 = 64 := by kernel_rfl
theorem zeRw : zeroT Tryd.prog 75 = true := by kernel_rfl
theorem wRw (l : List DRow) : ∀ d ∈ l.map encRw, d.width = 64 := fun d hd => by obtain ⟨m, _, rfl⟩ := List.mem_map.1 hd; exact width_encRw m
theorem elGu : elT Tryd.prog 32 = some 73 := by kernel_rfl
theorem szGu : szOf Tryd.prog 73 = 33 := by kernel_rfl
theorem byGu : bytesOf Tryd.prog 73 = 56 := by kernel_rfl
theorem zeGu : zeroT Tryd.prog 73 = true := by kernel_rfl
theorem wGu (l : List DGu) : ∀ d ∈ l.map encGu, d.width = 33 := fun d hd => by obtain ⟨m, _, rfl⟩ := List.mem_map.1 hd; exact width_encGu m
def RowO (own : Own) (e : TypeId) (n : Nat) (T : St) : Prop := own = .full ∧ n = 0 ∨ ∃ g, own = .row g ∧ T.ob g = some (.row e n)
theorem RowO.mono {own : Own} {e : TypeId} {n : Nat} {S T : St} (h : RowO own e n S) (hs : ∀ j e' n, S.ob j = some (.row e' n) → T.ob j = some (.row e' n)) : RowO own e n T := by
  rcases h with h | ⟨g, h1, h2⟩
  · exact .inl h
  · exact .inr ⟨g, h1, hs _ _ _ h2⟩
structure RefAt (k : Nat) (rs : List DRow) (L : List DGu) (size : Nat) (T : St) : Prop where
  ex : ∃ o1 o2, T.ob k = some (.box 34 [.v (.int .i64 ((size : Nat) : Int)), .sl o1 (rs.map encRw), .sl o2 (L.map encGu)]) ∧ RowO o1 75 rs.length T ∧ RowO o2 73 L.length T
theorem RefAt.mono {k : Nat} {rs : List DRow} {L : List DGu} {size : Nat} {S T : St} (h : RefAt k rs L size S) (hs : ∀ j o, S.ob j = some o → T.ob j = some o) : RefAt k rs L size T := by
  obtain ⟨o1, o2, h1, h2, h3⟩ := h.ex
  exact ⟨o1, o2, hs _ _ h1, h2.mono fun j e n h => hs j _ h, h3.mono fun j e n h => hs j _ h⟩
section
set_option maxRecDepth 200000
set_option maxHeartbeats 8000000
theorem rhas_at {T : St} {k : Nat} {rs : List DRow} {L : List DGu} {size : Nat} (hr : RefAt k rs L size T) (hl : L.length ≤ 1000000) (h : H32) : DAt Tryd.prog 18 [.loc k 0, encH h] T (.v (.bool (hasR L h))) := by
  refine dat_of_dwpL mixed Tryd.func18 rfl (fun _ _ => by kernel_rfl) (rs := [.tmp 4]) rfl (by kernel_rfl) (by trivial) (fun hS => ?_)
  obtain ⟨o1, o2, h1, _, _⟩ := hr.ex
  have hkl := hS.lt h1
  have lh := h.2
  have hsub := ((St.Sub.refl T).add hS (.box 37 (h.1.map bD)))
  (simp (disch := first | decide | omega | (simp only [nx]; first | done | omega)) only [go_sem]; (repeat with_reducible refine aI ?_))
  (refine dloop_st (fun t => List.contains [4, 5, 6, 7, 8, 9, 10, 11, 12, 13, 14, 15, 16, 17, 18, 19, 20, 21, 22, 23, 24] t) (by kernel_rfl) ?_ (L.length) (fun i f => i ≤ L.length ∧ f 5 = .v (.int .i64 (i : Nat)) ∧ (∀ j (h' : j < L.length), j < i → decide (L[j].1 = h) = false)) ?_ ?_; (exact (by (repeat' first | assumption | refine St.WF.leave ?_ _ | refine St.WF.add ?_ _ | refine St.WF.set ?_ ?_ _ | refine St.WF.grow ?_ _ _ _ | refine St.WF.keep ?_ ?_ | (first | omega | (simp only [RowOk.lo, nx]; first | done | omega))))); (exact ⟨(by omega), (by (first | (simp (disch := first | decide | omega | (simp only [nx]; first | done | omega)) only [go_sem]; first | done | rfl) | rfl)), (fun j _ h => absurd h (by omega))⟩); intro i g tn hn hT hg hI; obtain ⟨le, q5, hs⟩ := hI; have q0 := hg 0 rfl; have q3 := hg 3 rfl; simp (disch := first | decide | omega | (simp only [nx]; first | done | omega)) only [go_sem] at q0 q3; clear hg; have hn' := hn; try simp only [add_next, set_next, grow_next, leave_next, drop_next] at hn')
  have hob : (⟨tn, (T.add (.box 37 (h.1.map bD))).ob⟩ : St).ob T.next = some (.box 37 (h.1.map bD)) := by (first | (simp (disch := first | decide | omega | (simp only [nx]; first | done | omega)) only [go_sem]; first | done | rfl) | rfl)
  have hok := hsub.ob k _ h1
  by_cases hlt : i < L.length
  · have b1 : decide ((i : Int) < (L.length : Int)) = true := decide_eq_true (by omega)
    have w1 : IntKind.i64.wrap ((i : Int) + 1) = ((i + 1 : Nat) : Int) := IntWalk.i64_in _ ⟨by omega, by omega⟩
    have la := L[i].1.2
    (simp (disch := first | decide | omega | (simp only [nx]; first | done | omega)) only [go_sem, q0, q3, q5, b1, hlt, hok, hob]; (repeat with_reducible refine aI ?_))
    refine ddraw_mk 10 (by kernel_rfl) ?_
    (simp (disch := first | decide | omega | (simp only [nx]; first | done | omega)) only [go_sem, q0, q3, q5, b1, hlt, hok, hob, la, lh]; (repeat with_reducible refine aI ?_))
    cases hp : decide (L[i].1 = h) with
    | false =>
      (simp (disch := first | decide | omega | (simp only [nx]; first | done | omega)) only [go_sem, q5, w1]; (repeat with_reducible refine aI ?_))
      refine ⟨by omega, ⟨hn, fun _ _ h => h⟩, by omega, ?_, fun j hj hji => ?_⟩
      · (first | (simp (disch := first | decide | omega | (simp only [nx]; first | done | omega)) only [go_sem, w1]; first | done | rfl) | rfl)
      · by_cases e : j = i
        · subst e; exact hp
        · exact hs j hj (by omega)
    | true =>
      (simp (disch := first | decide | omega | (simp only [nx]; first | done | omega)) only [go_sem]; (repeat with_reducible refine aI ?_))
      refine ⟨?_, (by (repeat' first | assumption | exact St.Sub.refl _ | exact RowOk.sub (by assumption) (by assumption) | refine St.Sub.trans ?_ (RowOk.sub (by assumption) (by assumption)) | refine St.Sub.add ?_ ?_ _ | refine St.Sub.set ?_ ?_ ?_ _ | refine St.Sub.keep ?_ ?_ | refine St.WF.leave ?_ _ | refine St.WF.add ?_ _ | refine St.WF.set ?_ ?_ _ | refine St.WF.grow ?_ _ _ _ | refine St.WF.keep ?_ ?_ | (first | omega | (simp only [RowOk.lo, nx]; first | done | omega))))⟩
      have : hasR L h = true := List.any_eq_true.2 ⟨L[i], List.getElem_mem hlt, hp⟩
      rw [this]
      rfl
  · have b1 : decide ((i : Int) < (L.length : Int)) = false := decide_eq_false (by omega)
    (simp (disch := first | decide | omega | (simp only [nx]; first | done | omega)) only [go_sem, q0, q3, q5, b1, hok, hob]; (repeat with_reducible refine aI ?_))
    refine ⟨?_, (by (repeat' first | assumption | exact St.Sub.refl _ | exact RowOk.sub (by assumption) (by assumption) | refine St.Sub.trans ?_ (RowOk.sub (by assumption) (by assumption)) | refine St.Sub.add ?_ ?_ _ | refine St.Sub.set ?_ ?_ ?_ _ | refine St.Sub.keep ?_ ?_ | refine St.WF.leave ?_ _ | refine St.WF.add ?_ _ | refine St.WF.set ?_ ?_ _ | refine St.WF.grow ?_ _ _ _ | refine St.WF.keep ?_ ?_ | (first | omega | (simp only [RowOk.lo, nx]; first | done | omega))))⟩
    have : hasR L h = false := List.any_eq_false.2 fun x hx => by
      obtain ⟨j, hj, rfl⟩ := List.getElem_of_mem hx
      rw [hs j hj (by omega)]; simp
    rw [this]
    rfl
theorem rwaits_at {T : St} {k : Nat} {rs : List DRow} {L : List DGu} {size : Nat} (hr : RefAt k rs L size T) (hl : rs.length ≤ 1000000) (h : H32) : DAt Tryd.prog 40 [.loc k 0, encH h] T (.v (.bool (waitsR rs h))) := by
  refine dat_of_dwpL mixed Tryd.func40 rfl (fun _ _ => by kernel_rfl) (rs := [.tmp 4]) rfl (by kernel_rfl) (by trivial) (fun hS => ?_)
  obtain ⟨o1, o2, h1, _, _⟩ := hr.ex
  have hkl := hS.lt h1
  have lh := h.2
  have hsub := ((St.Sub.refl T).add hS (.box 37 (h.1.map bD)))
  (simp (disch := first | decide | omega | (simp only [nx]; first | done | omega)) only [go_sem]; (repeat with_reducible refine aI ?_))
  (refine dloop_st (fun t => List.contains [4, 5, 6, 7, 8, 9, 10, 11, 12, 13, 14, 15, 16, 17, 18, 19, 20, 21, 22, 23, 24] t) (by kernel_rfl) ?_ (rs.length) (fun i f => i ≤ rs.length ∧ f 5 = .v (.int .i64 (i : Nat)) ∧ (∀ j (h' : j < rs.length), j < i → decide (rs[j].1 = h) = false)) ?_ ?_; (exact (by (repeat' first | assumption | refine St.WF.leave ?_ _ | refine St.WF.add ?_ _ | refine St.WF.set ?_ ?_ _ | refine St.WF.grow ?_ _ _ _ | refine St.WF.keep ?_ ?_ | (first | omega | (simp only [RowOk.lo, nx]; first | done | omega))))); (exact ⟨(by omega), (by (first | (simp (disch := first | decide | omega | (simp only [nx]; first | done | omega)) only [go_sem]; first | done | rfl) | rfl)), (fun j _ h => absurd h (by omega))⟩); intro i g tn hn hT hg hI; obtain ⟨le, q5, hs⟩ := hI; have q0 := hg 0 rfl; have q3 := hg 3 rfl; simp (disch := first | decide | omega | (simp only [nx]; first | done | omega)) only [go_sem] at q0 q3; clear hg; have hn' := hn; try simp only [add_next, set_next, grow_next, leave_next, drop_next] at hn')
  have hob : (⟨tn, (T.add (.box 37 (h.1.map bD))).ob⟩ : St).ob T.next = some (.box 37 (h.1.map bD)) := by (first | (simp (disch := first | decide | omega | (simp only [nx]; first | done | omega)) only [go_sem]; first | done | rfl) | rfl)
  have hok := hsub.ob k _ h1
  by_cases hlt : i < rs.length
  · have b1 : decide ((i : Int) < (rs.length : Int)) = true := decide_eq_true (by omega)
    have w1 : IntKind.i64.wrap ((i : Int) + 1) = ((i + 1 : Nat) : Int) := IntWalk.i64_in _ ⟨by omega, by omega⟩
    have la := rs[i].1.2
    (simp (disch := first | decide | omega | (simp only [nx]; first | done | omega)) only [go_sem, q0, q3, q5, b1, hlt, hok, hob]; (repeat with_reducible refine aI ?_))
    refine ddraw_mk 10 (by kernel_rfl) ?_
    (simp (disch := first | decide | omega | (simp only [nx]; first | done | omega)) only [go_sem, q0, q3, q5, b1, hlt, hok, hob, la, lh]; (repeat with_reducible refine aI ?_))
    cases hp : decide (rs[i].1 = h) with
    | false =>
      (simp (disch := first | decide | omega | (simp only [nx]; first | done | omega)) only [go_sem, q5, w1]; (repeat with_reducible refine aI ?_))
      refine ⟨by omega, ⟨hn, fun _ _ h => h⟩, by omega, ?_, fun j hj hji => ?_⟩
      · (first | (simp (disch := first | decide | omega | (simp only [nx]; first | done | omega)) only [go_sem, w1]; first | done | rfl) | rfl)
      · by_cases e : j = i
        · subst e; exact hp
        · exact hs j hj (by omega)
    | true =>
      (simp (disch := first | decide | omega | (simp only [nx]; first | done | omega)) only [go_sem]; (repeat with_reducible refine aI ?_))
      refine ⟨?_, (by (repeat' first | assumption | exact St.Sub.refl _ | exact RowOk.sub (by assumption) (by assumption) | refine St.Sub.trans ?_ (RowOk.sub (by assumption) (by assumption)) | refine St.Sub.add ?_ ?_ _ | refine St.Sub.set ?_ ?_ ?_ _ | refine St.Sub.keep ?_ ?_ | refine St.WF.leave ?_ _ | refine St.WF.add ?_ _ | refine St.WF.set ?_ ?_ _ | refine St.WF.grow ?_ _ _ _ | refine St.WF.keep ?_ ?_ | (first | omega | (simp only [RowOk.lo, nx]; first | done | omega))))⟩
      have : waitsR rs h = true := List.any_eq_true.2 ⟨rs[i], List.getElem_mem hlt, hp⟩
      rw [this]
      rfl
  · have b1 : decide ((i : Int) < (rs.length : Int)) = false := decide_eq_false (by omega)
    (simp (disch := first | decide | omega | (simp only [nx]; first | done | omega)) only [go_sem, q0, q3, q5, b1, hok, hob]; (repeat with_reducible refine aI ?_))
    refine ⟨?_, (by (repeat' first | assumption | exact St.Sub.refl _ | exact RowOk.sub (by assumption) (by assumption) | refine St.Sub.trans ?_ (RowOk.sub (by assumption) (by assumption)) | refine St.Sub.add ?_ ?_ _ | refine St.Sub.set ?_ ?_ ?_ _ | refine St.Sub.keep ?_ ?_ | refine St.WF.leave ?_ _ | refine St.WF.add ?_ _ | refine St.WF.set ?_ ?_ _ | refine St.WF.grow ?_ _ _ _ | refine St.WF.keep ?_ ?_ | (first | omega | (simp only [RowOk.lo, nx]; first | done | omega))))⟩
    have : waitsR rs h = false := List.any_eq_false.2 fun x hx => by
      obtain ⟨j, hj, rfl⟩ := List.getElem_of_mem hx
      rw [hs j hj (by omega)]; simp
    rw [this]
    rfl
theorem rwaits_bx {T : St} {k : Nat} {rs : List DRow} {L : List DGu} {size : Nat} {o1 o2 : Own} (h1 : T.ob k = some (.box 34 [.v (.int .i64 ((size : Nat) : Int)), .sl o1 (rs.map encRw), .sl o2 (L.map encGu)])) (hl : rs.length ≤ 1000000) (h : H32) : DAt Tryd.prog 40 [.loc k 0, encH h] T (.v (.bool (waitsR rs h))) := by
  refine dat_of_dwpL mixed Tryd.func40 rfl (fun _ _ => by kernel_rfl) (rs := [.tmp 4]) rfl (by kernel_rfl) (by trivial) (fun hS => ?_)
  have hkl := hS.lt h1
  have lh := h.2
  have hsub := ((St.Sub.refl T).add hS (.box 37 (h.1.map bD)))
  (simp (disch := first | decide | omega | (simp only [nx]; first | done | omega)) only [go_sem]; (repeat with_reducible refine aI ?_))
  (refine dloop_st (fun t => List.contains [4, 5, 6, 7, 8, 9, 10, 11, 12, 13, 14, 15, 16, 17, 18, 19, 20, 21, 22, 23, 24] t) (by kernel_rfl) ?_ (rs.length) (fun i f => i ≤ rs.length ∧ f 5 = .v (.int .i64 (i : Nat)) ∧ (∀ j (h' : j < rs.length), j < i → decide (rs[j].1 = h) = false)) ?_ ?_; (exact (by (repeat' first | assumption | refine St.WF.leave ?_ _ | refine St.WF.add ?_ _ | refine St.WF.set ?_ ?_ _ | refine St.WF.grow ?_ _ _ _ | refine St.WF.keep ?_ ?_ | (first | omega | (simp only [RowOk.lo, nx]; first | done | omega))))); (exact ⟨(by omega), (by (first | (simp (disch := first | decide | omega | (simp only [nx]; first | done | omega)) only [go_sem]; first | done | rfl) | rfl)), (fun j _ h => absurd h (by omega))⟩); intro i g tn hn hT hg hI; obtain ⟨le, q5, hs⟩ := hI; have q0 := hg 0 rfl; have q3 := hg 3 rfl; simp (disch := first | decide | omega | (simp only [nx]; first | done | omega)) only [go_sem] at q0 q3; clear hg; have hn' := hn; try simp only [add_next, set_next, grow_next, leave_next, drop_next] at hn')
  have hob : (⟨tn, (T.add (.box 37 (h.1.map bD))).ob⟩ : St).ob T.next = some (.box 37 (h.1.map bD)) := by (first | (simp (disch := first | decide | omega | (simp only [nx]; first | done | omega)) only [go_sem]; first | done | rfl) | rfl)
  have hok := hsub.ob k _ h1
  by_cases hlt : i < rs.length
  · have b1 : decide ((i : Int) < (rs.length : Int)) = true := decide_eq_true (by omega)
    have w1 : IntKind.i64.wrap ((i : Int) + 1) = ((i + 1 : Nat) : Int) := IntWalk.i64_in _ ⟨by omega, by omega⟩
    have la := rs[i].1.2
    (simp (disch := first | decide | omega | (simp only [nx]; first | done | omega)) only [go_sem, q0, q3, q5, b1, hlt, hok, hob]; (repeat with_reducible refine aI ?_))
    refine ddraw_mk 10 (by kernel_rfl) ?_
    (simp (disch := first | decide | omega | (simp only [nx]; first | done | omega)) only [go_sem, q0, q3, q5, b1, hlt, hok, hob, la, lh]; (repeat with_reducible refine aI ?_))
    cases hp : decide (rs[i].1 = h) with
    | false =>
      (simp (disch := first | decide | omega | (simp only [nx]; first | done | omega)) only [go_sem, q5, w1]; (repeat with_reducible refine aI ?_))
      refine ⟨by omega, ⟨hn, fun _ _ h => h⟩, by omega, ?_, fun j hj hji => ?_⟩
      · (first | (simp (disch := first | decide | omega | (simp only [nx]; first | done | omega)) only [go_sem, w1]; first | done | rfl) | rfl)
      · by_cases e : j = i
        · subst e; exact hp
        · exact hs j hj (by omega)
    | true =>
      (simp (disch := first | decide | omega | (simp only [nx]; first | done | omega)) only [go_sem]; (repeat with_reducible refine aI ?_))
      refine ⟨?_, (by (repeat' first | assumption | exact St.Sub.refl _ | exact RowOk.sub (by assumption) (by assumption) | refine St.Sub.trans ?_ (RowOk.sub (by assumption) (by assumption)) | refine St.Sub.add ?_ ?_ _ | refine St.Sub.set ?_ ?_ ?_ _ | refine St.Sub.keep ?_ ?_ | refine St.WF.leave ?_ _ | refine St.WF.add ?_ _ | refine St.WF.set ?_ ?_ _ | refine St.WF.grow ?_ _ _ _ | refine St.WF.keep ?_ ?_ | (first | omega | (simp only [RowOk.lo, nx]; first | done | omega))))⟩
      have : waitsR rs h = true := List.any_eq_true.2 ⟨rs[i], List.getElem_mem hlt, hp⟩
      rw [this]
      rfl
  · have b1 : decide ((i : Int) < (rs.length : Int)) = false := decide_eq_false (by omega)
    (simp (disch := first | decide | omega | (simp only [nx]; first | done | omega)) only [go_sem, q0, q3, q5, b1, hok, hob]; (repeat with_reducible refine aI ?_))
    refine ⟨?_, (by (repeat' first | assumption | exact St.Sub.refl _ | exact RowOk.sub (by assumption) (by assumption) | refine St.Sub.trans ?_ (RowOk.sub (by assumption) (by assumption)) | refine St.Sub.add ?_ ?_ _ | refine St.Sub.set ?_ ?_ ?_ _ | refine St.Sub.keep ?_ ?_ | refine St.WF.leave ?_ _ | refine St.WF.add ?_ _ | refine St.WF.set ?_ ?_ _ | refine St.WF.grow ?_ _ _ _ | refine St.WF.keep ?_ ?_ | (first | omega | (simp only [RowOk.lo, nx]; first | done | omega))))⟩
    have : waitsR rs h = false := List.any_eq_false.2 fun x hx => by
      obtain ⟨j, hj, rfl⟩ := List.getElem_of_mem hx
      rw [hs j hj (by omega)]; simp
    rw [this]
    rfl
end
end Go.Proofs.YtonncfminojejaaDoor

namespace Go.Proofs.YtonncfminojejaaDoor
open Go.RowKit
structure FrR (k : Nat) (T T' : St) : Prop where
  next : T.next ≤ T'.next
  box : ∀ j t cs, j ≠ k → T.ob j = some (.box t cs) → T'.ob j = some (.box t cs)
  row : ∀ j e n, e ≠ 75 → e ≠ 73 → e ≠ 38 → T.ob j = some (.row e n) → T'.ob j = some (.row e n)
theorem FrR.trans {k : Nat} {A B C : St} (h : FrR k A B) (g : FrR k B C) : FrR k A C := ⟨Nat.le_trans h.next g.next, fun j t cs hj e => g.box j t cs hj (h.box j t cs hj e), fun j e n h1 h2 h3 hh => g.row j e n h1 h2 h3 (h.row j e n h1 h2 h3 hh)⟩
theorem FrR.of_sub {k : Nat} {A B : St} (h : A.Sub B) : FrR k A B := ⟨h.next, fun j _ _ _ e => h.ob j _ e, fun j _ _ _ _ _ e => h.ob j _ e⟩
theorem FrR.refl (k : Nat) (A : St) : FrR k A A := .of_sub (St.Sub.refl A)
theorem grow_keepO {V : St} (hV : V.WF) {own : Own} {e : TypeId} {n m : Nat} (h : RowO own e n V) {j : Nat} {o : Ob} (hj' : V.ob j = some o) (ho : ∀ n, o ≠ .row e n) : (V.grow own e m).ob j = some o := by
  have hj := hV.lt hj'
  rw [growM_skip (by omega) (fun g hg => ?_), hj']
  rintro rfl
  rcases h with ⟨h1, _⟩ | ⟨g', h1, h2⟩
  · rw [h1] at hg; cases hg
  · rw [h1] at hg; injection hg with hg; subst hg
    rw [hj'] at h2; injection h2 with h2
    exact ho _ h2
theorem RowO.app {own : Own} {e : TypeId} {α : Type} {l : List α} {f : α → D} {V : St} (h : RowO own e l.length V) : own = .full ∨ ∃ g, own = .row g ∧ V.ob g = some (.row e (l.map f).length) := by
  rcases h with ⟨h1, _⟩ | ⟨g, h1, h2⟩
  · exact .inl h1
  · exact .inr ⟨g, h1, by rw [List.length_map]; exact h2⟩
theorem RowO.mono' {own : Own} {e e' : TypeId} {n : Nat} {S T : St} (h : RowO own e n S) (hs : ∀ j o, S.ob j = some o → (∀ n, o ≠ .row e' n) → T.ob j = some o) (hne : e ≠ e' := by decide) : RowO own e n T := by
  rcases h with h | ⟨g, h1, h2⟩
  · exact .inl h
  · exact .inr ⟨g, h1, hs _ _ h2 fun n h => by injection h with h _; exact hne h⟩
theorem FrR.grow {V : St} (hV : V.WF) {own : Own} {e : TypeId} {n m : Nat} (h : RowO own e n V) (he : e = 75 ∨ e = 73 ∨ e = 38) (k : Nat) : FrR k V (V.grow own e m) :=
  ⟨by rw [grow_next]; omega, fun j t cs _ hj => grow_keepO hV h hj (fun n h => by cases h), fun j e' n' h1 h2 h3 hj => grow_keepO hV h hj fun n h => by
    injection h with h _
    subst h
    rcases he with he | he | he
    · exact h1 he
    · exact h2 he
    · exact h3 he⟩
section
set_option maxRecDepth 200000
set_option maxHeartbeats 8000000
def rowsK (rs : List DRow) (h : H32) (i : Nat) : List DRow := doneR (rs.take i) h
theorem rowsK_succ {rs : List DRow} {h : H32} {i : Nat} (hi : i < rs.length) : rowsK rs h (i + 1) = rowsK rs h i ++ if decide (rs[i].2 = h) then [] else [rs[i]] := by
  unfold rowsK doneR
  rw [List.take_succ_eq_append_getElem hi, List.filter_append]
  congr 1
  cases hp : decide (rs[i].2 = h) <;> simp at hp <;> simp [hp]
theorem rowsK_len (rs : List DRow) (h : H32) (i : Nat) : (rowsK rs h i).length ≤ rs.length := by
  have := List.length_filter_le (fun r : DRow => decide (r.2 ≠ h)) (rs.take i)
  rw [List.length_take] at this
  show (List.filter _ _).length ≤ _
  omega
def lK (rs : List DRow) (L : List DGu) (h : H32) (i : Nat) : List DGu := (L.take i).filter fun g => waitsR (doneR rs h) g.1
def oK (rs : List DRow) (L : List DGu) (h : H32) (i : Nat) : List (List UInt8) := ((L.take i).filter fun g => !waitsR (doneR rs h) g.1).map (·.2)
theorem lK_succ {rs : List DRow} {L : List DGu} {h : H32} {i : Nat} (hi : i < L.length) : lK rs L h (i + 1) = lK rs L h i ++ if waitsR (doneR rs h) L[i].1 then [L[i]] else [] := by
  unfold lK
  rw [List.take_succ_eq_append_getElem hi, List.filter_append]
  congr 1
  cases hp : waitsR (doneR rs h) L[i].1 <;> simp [hp]
theorem oK_succ {rs : List DRow} {L : List DGu} {h : H32} {i : Nat} (hi : i < L.length) : oK rs L h (i + 1) = oK rs L h i ++ if waitsR (doneR rs h) L[i].1 then [] else [L[i].2] := by
  unfold oK
  rw [List.take_succ_eq_append_getElem hi, List.filter_append, List.map_append]
  congr 1
  cases hp : waitsR (doneR rs h) L[i].1 <;> simp [hp]
theorem lK_len (rs : List DRow) (L : List DGu) (h : H32) (i : Nat) : (lK rs L h i).length ≤ L.length := by
  have := List.length_filter_le (fun g : DGu => waitsR (doneR rs h) g.1) (L.take i)
  rw [List.length_take] at this
  show (List.filter _ _).length ≤ _
  omega
theorem oK_len (rs : List DRow) (L : List DGu) (h : H32) (i : Nat) : (oK rs L h i).length ≤ L.length := by
  have := List.length_filter_le (fun g : DGu => !waitsR (doneR rs h) g.1) (L.take i)
  rw [List.length_take] at this
  rw [oK, List.length_map]
  omega
theorem rdone_at {S : St} {k : Nat} {rs : List DRow} {L : List DGu} {size : Nat} (hrm : RefAt k rs L size S) (hlr : rs.length ≤ 1000000) (hl : L.length ≤ 1000000) (h : H32) :
    DCalls Tryd.prog 24 [.loc k 0, encH h] S fun d T => d = .sl .no (((L.filter fun g => !waitsR (doneR rs h) g.1).map (·.2)).map encB) ∧ RefAt k (doneR rs h) (L.filter fun g => waitsR (doneR rs h) g.1) size T ∧ FrR k S T := by
  refine dcalls_frz (K := fun d T => (∃ own, d = .sl own (((L.filter fun g => !waitsR (doneR rs h) g.1).map (·.2)).map encB)) ∧ RefAt k (doneR rs h) (L.filter fun g => waitsR (doneR rs h) g.1) size T ∧ FrR k S T) ?_ fun d T ⟨⟨own, e⟩, h2⟩ => ⟨by subst e; simp only [D.frz, frz_encBs], h2⟩
  obtain ⟨o1, o2, h1, r1, r2⟩ := hrm.ex
  refine dcalls_inline mixed Tryd.func24 rfl (fun _ _ => by kernel_rfl) (rs := [.tmp 4]) rfl (by kernel_rfl) (fun hS => ?_)
  have hkl := hS.lt h1
  have lh := h.2
  (simp (disch := first | decide | omega | (simp only [nx]; first | done | omega)) only [go_sem, lh]; (repeat with_reducible refine aI ?_))
  have hsub : S.Sub (S.add (.box 37 (h.1.map bD))) := (St.Sub.refl S).add hS _
  have hob1 : (S.add (.box 37 (h.1.map bD))).ob S.next = some (.box 37 (h.1.map bD)) := by (first | (simp (disch := first | decide | omega | (simp only [nx]; first | done | omega)) only [go_sem]; first | done | rfl) | rfl)
  have h1' := hsub.ob _ _ h1
  have hW : (S.add (.box 37 (h.1.map bD))).WF := hS.add _
  have hfr0 : FrR k S (S.add (.box 37 (h.1.map bD))) := .of_sub hsub
  have r2' := r2.mono fun j e n e' => hsub.ob j _ e'
  have hnk : S.next ≠ k := by omega
  generalize hS1 : S.add (.box 37 (h.1.map bD)) = S1 at *
  refine dloop_up (fun t => List.contains [5, 6, 10, 11, 12, 13, 14, 15, 16, 17, 18, 19, 20, 21, 22, 23, 24, 25, 26, 27, 28, 29, 30, 31, 32, 33, 34, 35, 36, 37, 38] t) (by kernel_rfl) (by exact hW) rs.length (fun i q T => i ≤ rs.length ∧ q 6 = .v (.int .i64 ((i : Nat) : Int)) ∧ (∃ own, q 5 = .sl own ((rowsK rs h i).map encRw) ∧ RowO own 75 (rowsK rs h i).length T) ∧ T.ob k = some (.box 34 [.v (.int .i64 ((size : Nat) : Int)), .sl o1 (rs.map encRw), .sl o2 (L.map encGu)]) ∧ RowO o2 73 L.length T ∧ FrR k S1 T)
    ⟨by omega, by (first | (simp (disch := first | decide | omega | (simp only [nx]; first | done | omega)) only [go_sem]; first | done | rfl) | rfl), ⟨.full, by (first | (simp (disch := first | decide | omega | (simp only [nx]; first | done | omega)) only [go_sem]; first | done | rfl) | rfl), .inl ⟨rfl, rfl⟩⟩, h1', r2', FrR.refl _ _⟩ ?_
  rintro i q T hT hg ⟨le, q6, ⟨own, q5, hrow⟩, tk, tr2, tfr⟩
  (have q0 := hg 0 rfl; have q3 := hg 3 rfl; have q4 := hg 4 rfl; simp (disch := first | decide | omega | (simp only [nx]; first | done | omega)) only [go_sem] at q0 q3 q4; clear hg)
  have hkn := rowsK_len rs h i
  have tn0 := tfr.box _ _ _ hnk hob1
  by_cases hlt : i < rs.length
  · have b1 : decide ((i : Int) < (rs.length : Int)) = true := decide_eq_true (by omega)
    have w1 : IntKind.i64.wrap ((i : Int) + 1) = ((i + 1 : Nat) : Int) := IntWalk.i64_in _ ⟨by omega, by omega⟩
    have la := rs[i].2.2
    (simp (disch := first | decide | omega | (simp only [nx]; first | done | omega)) only [go_sem, q0, q3, q5, q6, b1, hlt, tk, tn0]; (repeat with_reducible refine aI ?_))
    refine ddraw_mk 10 (by kernel_rfl) ?_
    (simp (disch := first | decide | omega | (simp only [nx]; first | done | omega)) only [go_sem, q0, q3, q5, q6, b1, hlt, tk, tn0, la, lh]; (repeat with_reducible refine aI ?_))
    have hks := rowsK_succ (h := h) hlt
    have nt : (!true) = false := rfl
    have nf : (!false) = true := rfl
    cases hp : decide (rs[i].2 = h) with
    | true =>
      rw [hp, if_pos rfl, List.append_nil] at hks
      (simp (disch := first | decide | omega | (simp only [nx]; first | done | omega)) only [go_sem, q5, q6, w1, nt]; (repeat with_reducible refine aI ?_))
      refine ⟨by omega, T.ob, fun _ _ h => h, by omega, by (first | (simp (disch := first | decide | omega | (simp only [nx]; first | done | omega)) only [go_sem, w1]; first | done | rfl) | rfl), ⟨own, ?_, ?_⟩, tk, tr2, tfr⟩
      · rw [hks]; (first | (simp (disch := first | decide | omega | (simp only [nx]; first | done | omega)) only [go_sem, q5]; first | done | rfl) | rfl)
      · rw [hks]; exact hrow
    | false =>
      rw [hp, if_neg (by simp)] at hks
      (simp (disch := first | decide | omega | (simp only [nx]; first | done | omega)) only [go_sem, q0, q5, q6, hlt, tk, nf]; (repeat with_reducible refine aI ?_))
      refine app_more elRw zeRw hrow.app (by rw [szRw]; exact wRw _) (by rw [szRw]; exact fun d hd => by obtain rfl := List.mem_singleton.1 hd; exact width_encRw _) (by rw [List.length_map]; simp; omega) (by rw [List.length_map, byRw]; simp; omega) ?_
      rw [List.length_map]
      have gk : ∀ j o, T.ob j = some o → (∀ n, o ≠ .row 75 n) → (T.grow own 75 ((rowsK rs h i).length + 1)).ob j = some o := fun j o e ho => grow_keepO hT hrow e ho
      (simp (disch := first | decide | omega | (simp only [nx]; first | done | omega)) only [go_sem, q6, w1]; (repeat with_reducible refine aI ?_))
      refine ⟨by omega, (T.grow own 75 ((rowsK rs h i).length + 1)).ob, fun _ _ h => h, by omega, by (first | (simp (disch := first | decide | omega | (simp only [nx]; first | done | omega)) only [go_sem, w1]; first | done | rfl) | rfl), ⟨.row T.next, ?_, .inr ⟨T.next, rfl, ?_⟩⟩, gk _ _ tk (fun n h => by cases h), tr2.mono' gk, tfr.trans (FrR.grow hT hrow (.inl rfl) k)⟩
      · rw [hks, List.map_append]; (first | (simp (disch := first | decide | omega | (simp only [nx]; first | done | omega)) only [go_sem]; first | done | rfl) | rfl)
      · rw [hks, List.length_append]; exact growM_hit
  · have b1 : decide ((i : Int) < (rs.length : Int)) = false := decide_eq_false (by omega)
    have hie : i = rs.length := by omega
    have e9 : rowsK rs h i = doneR rs h := by rw [hie, rowsK, List.take_length]
    rw [e9] at q5 hrow
    have hRl : (doneR rs h).length ≤ 1000000 := by rw [← e9]; omega
    (simp (disch := first | decide | omega | (simp only [nx]; first | done | omega)) only [go_sem, q0, q3, q5, q6, b1, tk]; (repeat with_reducible refine aI ?_))
    have hkT := hT.lt tk
    have uk : (T.set k (.box 34 [.v (.int .i64 ((size : Nat) : Int)), .sl own ((doneR rs h).map encRw), .sl o2 (L.map encGu)])).ob k = some (.box 34 [.v (.int .i64 ((size : Nat) : Int)), .sl own ((doneR rs h).map encRw), .sl o2 (L.map encGu)]) := by rw [set_ob, if_pos rfl]
    have ur1 : RowO own 75 (doneR rs h).length (T.set k (.box 34 [.v (.int .i64 ((size : Nat) : Int)), .sl own ((doneR rs h).map encRw), .sl o2 (L.map encGu)])) := by
      rcases hrow with h2 | ⟨g, h2, h3⟩
      · exact .inl h2
      · exact .inr ⟨g, h2, by rw [set_ob, if_neg (fun e => by rw [e, tk] at h3; cases h3)]; exact h3⟩
    have ufr : FrR k S1 (T.set k (.box 34 [.v (.int .i64 ((size : Nat) : Int)), .sl own ((doneR rs h).map encRw), .sl o2 (L.map encGu)])) := tfr.trans ⟨Nat.le_refl _, fun j t cs hj e => by rw [set_ob, if_neg hj]; exact e, fun j e n _ _ _ hh => by rw [set_ob, if_neg (fun e' => by rw [e', tk] at hh; cases hh)]; exact hh⟩
    have uw : (T.set k (.box 34 [.v (.int .i64 ((size : Nat) : Int)), .sl own ((doneR rs h).map encRw), .sl o2 (L.map encGu)])).WF := hT.set hkT _
    clear hT tk tr2 tfr hrow tn0
    generalize T.set k (.box 34 [.v (.int .i64 ((size : Nat) : Int)), .sl own ((doneR rs h).map encRw), .sl o2 (L.map encGu)]) = U at *
    refine dloop_up (fun t => List.contains [7, 8, 9, 43, 44, 45, 46, 47, 48, 49, 50, 51, 52, 53, 54, 55, 56, 57, 58, 59, 60, 61, 62, 63, 64, 65, 66, 67, 68, 69, 70, 71, 72, 73, 74, 75, 76, 77, 78, 79, 80, 81, 82] t) (by kernel_rfl) (by exact uw) L.length (fun i q T => i ≤ L.length ∧ q 9 = .v (.int .i64 ((i : Nat) : Int)) ∧ (∃ own, q 8 = .sl own ((lK rs L h i).map encGu) ∧ RowO own 73 (lK rs L h i).length T) ∧ (∃ own, q 7 = .sl own ((oK rs L h i).map encB) ∧ RowO own 38 (oK rs L h i).length T) ∧
        T.ob k = some (.box 34 [.v (.int .i64 ((size : Nat) : Int)), .sl own ((doneR rs h).map encRw), .sl o2 (L.map encGu)]) ∧ RowO own 75 (doneR rs h).length T ∧ FrR k S1 T)
      ⟨by omega, by (first | (simp (disch := first | decide | omega | (simp only [nx]; first | done | omega)) only [go_sem]; first | done | rfl) | rfl), ⟨.full, by (first | (simp (disch := first | decide | omega | (simp only [nx]; first | done | omega)) only [go_sem]; first | done | rfl) | rfl), .inl ⟨rfl, rfl⟩⟩, ⟨.full, by (first | (simp (disch := first | decide | omega | (simp only [nx]; first | done | omega)) only [go_sem]; first | done | rfl) | rfl), .inl ⟨rfl, rfl⟩⟩, uk, ur1, ufr⟩ ?_
    clear uk ur1 ufr uw
    rintro i2 q2' T2 hT2 hg2 ⟨le2, q9, ⟨own8, q8, hr8⟩, ⟨own7, q7, hr7⟩, tk, tr1, tfr⟩
    (have q02 := hg2 0 rfl; have q42 := hg2 4 rfl; simp (disch := first | decide | omega | (simp only [nx]; first | done | omega)) only [go_sem, q0] at q02 q42; clear hg2)
    have hk8 := lK_len rs L h i2
    have hk7 := oK_len rs L h i2
    by_cases hlt2 : i2 < L.length
    · have c1 : decide ((i2 : Int) < (L.length : Int)) = true := decide_eq_true (by omega)
      have w1 : IntKind.i64.wrap ((i2 : Int) + 1) = ((i2 + 1 : Nat) : Int) := IntWalk.i64_in _ ⟨by omega, by omega⟩
      have la := L[i2].1.2
      have hl8 := lK_succ (rs := rs) (h := h) hlt2
      have hl7 := oK_succ (rs := rs) (h := h) hlt2
      (simp (disch := first | decide | omega | (simp only [nx]; first | done | omega)) only [go_sem, q02, q7, q8, q9, c1, hlt2, tk, la]; (repeat with_reducible refine aI ?_))
      refine go_at (rwaits_bx tk hRl L[i2].1) ?_
      cases hp : waitsR (doneR rs h) L[i2].1 with
      | true =>
        rw [hp, if_pos rfl] at hl8 hl7
        rw [List.append_nil] at hl7
        (simp (disch := first | decide | omega | (simp only [nx]; first | done | omega)) only [go_sem, q02, q7, q8, q9, hlt2, tk, la]; (repeat with_reducible refine aI ?_))
        refine app_more elGu zeGu hr8.app (by rw [szGu]; exact wGu _) (by rw [szGu]; exact fun d hd => by obtain rfl := List.mem_singleton.1 hd; exact width_encGu _) (by rw [List.length_map]; simp; omega) (by rw [List.length_map, byGu]; simp; omega) ?_
        rw [List.length_map]
        have gk : ∀ j o, T2.ob j = some o → (∀ n, o ≠ .row 73 n) → (T2.grow own8 73 ((lK rs L h i2).length + 1)).ob j = some o := fun j o e ho => grow_keepO hT2 hr8 e ho
        (simp (disch := first | decide | omega | (simp only [nx]; first | done | omega)) only [go_sem, q9, w1]; (repeat with_reducible refine aI ?_))
        refine ⟨by omega, (T2.grow own8 73 ((lK rs L h i2).length + 1)).ob, fun _ _ h => h, by omega, by (first | (simp (disch := first | decide | omega | (simp only [nx]; first | done | omega)) only [go_sem, w1]; first | done | rfl) | rfl), ⟨.row T2.next, ?_, .inr ⟨T2.next, rfl, ?_⟩⟩, ⟨own7, ?_, ?_⟩, gk _ _ tk (fun n h => by cases h), tr1.mono' gk, tfr.trans (FrR.grow hT2 hr8 (.inr (.inl rfl)) k)⟩
        · rw [hl8, List.map_append]; (first | (simp (disch := first | decide | omega | (simp only [nx]; first | done | omega)) only [go_sem]; first | done | rfl) | rfl)
        · rw [hl8, List.length_append]; exact growM_hit
        · rw [hl7]; (first | (simp (disch := first | decide | omega | (simp only [nx]; first | done | omega)) only [go_sem, q7]; first | done | rfl) | rfl)
        · rw [hl7]; exact hr7.mono' gk
      | false =>
        rw [hp, if_neg (by simp)] at hl8 hl7
        rw [List.append_nil] at hl8
        (simp (disch := first | decide | omega | (simp only [nx]; first | done | omega)) only [go_sem, q02, q7, q8, q9, hlt2, tk, la]; (repeat with_reducible refine aI ?_))
        refine app_more elBs zeBs hr7.app (by rw [szBs]; exact wBs _) (by rw [szBs]; exact fun d hd => by obtain rfl := List.mem_singleton.1 hd; rfl) (by rw [List.length_map]; simp; omega) (by rw [List.length_map, byBs]; simp; omega) ?_
        rw [List.length_map]
        have gk : ∀ j o, T2.ob j = some o → (∀ n, o ≠ .row 38 n) → (T2.grow own7 38 ((oK rs L h i2).length + 1)).ob j = some o := fun j o e ho => grow_keepO hT2 hr7 e ho
        (simp (disch := first | decide | omega | (simp only [nx]; first | done | omega)) only [go_sem, q9, w1]; (repeat with_reducible refine aI ?_))
        refine ⟨by omega, (T2.grow own7 38 ((oK rs L h i2).length + 1)).ob, fun _ _ h => h, by omega, by (first | (simp (disch := first | decide | omega | (simp only [nx]; first | done | omega)) only [go_sem, w1]; first | done | rfl) | rfl), ⟨own8, ?_, ?_⟩, ⟨.row T2.next, ?_, .inr ⟨T2.next, rfl, ?_⟩⟩, gk _ _ tk (fun n h => by cases h), tr1.mono' gk, tfr.trans (FrR.grow hT2 hr7 (.inr (.inr rfl)) k)⟩
        · rw [hl8]; (first | (simp (disch := first | decide | omega | (simp only [nx]; first | done | omega)) only [go_sem, q8]; first | done | rfl) | rfl)
        · rw [hl8]; exact hr8.mono' gk
        · rw [hl7, List.map_append]; (first | (simp (disch := first | decide | omega | (simp only [nx]; first | done | omega)) only [go_sem]; first | done | rfl) | rfl)
        · rw [hl7, List.length_append]; exact growM_hit
    · have c1 : decide ((i2 : Int) < (L.length : Int)) = false := decide_eq_false (by omega)
      have hie2 : i2 = L.length := by omega
      have e8 : lK rs L h i2 = L.filter fun g => waitsR (doneR rs h) g.1 := by rw [hie2, lK, List.take_length]
      have e7 : oK rs L h i2 = (L.filter fun g => !waitsR (doneR rs h) g.1).map (·.2) := by rw [hie2, oK, List.take_length]
      rw [e8] at q8 hr8
      rw [e7] at q7
      (simp (disch := first | decide | omega | (simp only [nx]; first | done | omega)) only [go_sem, q02, q7, q8, q9, c1, tk]; (repeat with_reducible refine aI ?_))
      have keep : ∀ {own : Own} {e : TypeId} {n : Nat} {x : Ob}, RowO own e n T2 → RowO own e n (T2.set k x) := fun {own e n x} hh => by
        rcases hh with h2 | ⟨g, h2, h3⟩
        · exact .inl h2
        · exact .inr ⟨g, h2, by rw [set_ob, if_neg (fun e => by rw [e, tk] at h3; cases h3)]; exact h3⟩
      refine ⟨⟨own7, rfl⟩, ⟨own, own8, by rw [set_ob, if_pos rfl], keep tr1, keep hr8⟩, hfr0.trans (tfr.trans ⟨Nat.le_refl _, fun j t cs hj e => by rw [set_ob, if_neg hj]; exact e, fun j e n _ _ _ hh => by rw [set_ob, if_neg (fun e' => by rw [e', tk] at hh; cases hh)]; exact hh⟩)⟩
end
end Go.Proofs.YtonncfminojejaaDoor

namespace Go.Proofs.YtonncfminojejaaDoor
open Go.RowKit
section
set_option maxRecDepth 200000
set_option maxHeartbeats 8000000
def rdK (rs : List DRow) (h : H32) (i : Nat) : List DRow := (rs.take i).filter fun r => r.1 ≠ h
def ldK (L : List DGu) (h : H32) (i : Nat) : List DGu := (L.take i).filter fun g => g.1 ≠ h
theorem rdK_succ {rs : List DRow} {h : H32} {i : Nat} (hi : i < rs.length) : rdK rs h (i + 1) = rdK rs h i ++ if decide (rs[i].1 = h) then [] else [rs[i]] := by
  unfold rdK
  rw [List.take_succ_eq_append_getElem hi, List.filter_append]
  congr 1
  cases hp : decide (rs[i].1 = h) <;> simp at hp <;> simp [hp]
theorem ldK_succ {rs : List DGu} {h : H32} {i : Nat} (hi : i < rs.length) : ldK rs h (i + 1) = ldK rs h i ++ if decide (rs[i].1 = h) then [] else [rs[i]] := by
  unfold ldK
  rw [List.take_succ_eq_append_getElem hi, List.filter_append]
  congr 1
  cases hp : decide (rs[i].1 = h) <;> simp at hp <;> simp [hp]
theorem rdK_len (rs : List DRow) (h : H32) (i : Nat) : (rdK rs h i).length ≤ rs.length := by
  have := List.length_filter_le (fun r : DRow => decide (r.1 ≠ h)) (rs.take i)
  rw [List.length_take] at this
  show (List.filter _ _).length ≤ _
  omega
theorem ldK_len (rs : List DGu) (h : H32) (i : Nat) : (ldK rs h i).length ≤ rs.length := by
  have := List.length_filter_le (fun r : DGu => decide (r.1 ≠ h)) (rs.take i)
  rw [List.length_take] at this
  show (List.filter _ _).length ≤ _
  omega
theorem rdrop_at {S : St} {k : Nat} {rs : List DRow} {L : List DGu} {size : Nat} (hrm : RefAt k rs L size S) (hlr : rs.length ≤ 1000000) (hl : L.length ≤ 1000000) (h : H32) :
    DCalls Tryd.prog 25 [.loc k 0, encH h] S fun d T => d = .v (.bool (hasR L h)) ∧ RefAt k (rs.filter fun x => x.1 ≠ h) (L.filter fun g => g.1 ≠ h) size T ∧ FrR k S T := by
  obtain ⟨o1, o2, h1, r1, r2⟩ := hrm.ex
  refine dcalls_inline mixed Tryd.func25 rfl (fun _ _ => by kernel_rfl) (rs := [.tmp 4]) rfl (by kernel_rfl) (fun hS => ?_)
  have hkl := hS.lt h1
  have lh := h.2
  (simp (disch := first | decide | omega | (simp only [nx]; first | done | omega)) only [go_sem, lh]; (repeat with_reducible refine aI ?_))
  have hsub : S.Sub (S.add (.box 37 (h.1.map bD))) := (St.Sub.refl S).add hS _
  have hob1 : (S.add (.box 37 (h.1.map bD))).ob S.next = some (.box 37 (h.1.map bD)) := by (first | (simp (disch := first | decide | omega | (simp only [nx]; first | done | omega)) only [go_sem]; first | done | rfl) | rfl)
  have h1' := hsub.ob _ _ h1
  have hW : (S.add (.box 37 (h.1.map bD))).WF := hS.add _
  have hfr0 : FrR k S (S.add (.box 37 (h.1.map bD))) := .of_sub hsub
  have hrm1 := hrm.mono hsub.ob
  have hnk : S.next ≠ k := by omega
  refine go_at (rhas_at hrm1 hl h) ?_
  (simp (disch := first | decide | omega | (simp only [nx]; first | done | omega)) only [go_sem]; (repeat with_reducible refine aI ?_))
  generalize hS1 : S.add (.box 37 (h.1.map bD)) = S1 at *
  refine dloop_up (fun t => List.contains [6, 7, 13, 14, 15, 16, 17, 18, 19, 20, 21, 22, 23, 24, 25, 26, 27, 28, 29, 30, 31, 32, 33, 34, 35, 36, 37, 38, 39, 40, 41] t) (by kernel_rfl) (by exact hW) rs.length (fun i q T => i ≤ rs.length ∧ q 7 = .v (.int .i64 ((i : Nat) : Int)) ∧ (∃ own, q 6 = .sl own ((rdK rs h i).map encRw) ∧ RowO own 75 (rdK rs h i).length T) ∧ T.ob k = some (.box 34 [.v (.int .i64 ((size : Nat) : Int)), .sl o1 (rs.map encRw), .sl o2 (L.map encGu)]) ∧ FrR k S1 T)
    ⟨by omega, by (first | (simp (disch := first | decide | omega | (simp only [nx]; first | done | omega)) only [go_sem]; first | done | rfl) | rfl), ⟨.full, by (first | (simp (disch := first | decide | omega | (simp only [nx]; first | done | omega)) only [go_sem]; first | done | rfl) | rfl), .inl ⟨rfl, rfl⟩⟩, h1', FrR.refl _ _⟩ ?_
  rintro i q T hT hg ⟨le, q7, ⟨own, q6, hrow⟩, tk, tfr⟩
  have q5 := hg 5 rfl
  simp (disch := first | decide | omega | (simp only [nx]; first | done | omega)) only [go_sem] at q5
  (have q0 := hg 0 rfl; have q3 := hg 3 rfl; have q4 := hg 4 rfl; have q5 := hg 5 rfl; simp (disch := first | decide | omega | (simp only [nx]; first | done | omega)) only [go_sem] at q0 q3 q4 q5; clear hg)
  have hkn := rdK_len rs h i
  have tn0 := tfr.box _ _ _ hnk hob1
  have nt : (!true) = false := rfl
  have nf : (!false) = true := rfl
  by_cases hlt : i < rs.length
  · have b1 : decide ((i : Int) < (rs.length : Int)) = true := decide_eq_true (by omega)
    have w1 : IntKind.i64.wrap ((i : Int) + 1) = ((i + 1 : Nat) : Int) := IntWalk.i64_in _ ⟨by omega, by omega⟩
    have la := rs[i].1.2
    (simp (disch := first | decide | omega | (simp only [nx]; first | done | omega)) only [go_sem, q0, q3, q6, q7, b1, hlt, tk, tn0]; (repeat with_reducible refine aI ?_))
    refine ddraw_mk 10 (by kernel_rfl) ?_
    (simp (disch := first | decide | omega | (simp only [nx]; first | done | omega)) only [go_sem, q0, q3, q6, q7, b1, hlt, tk, tn0, la, lh]; (repeat with_reducible refine aI ?_))
    have hks := rdK_succ (h := h) hlt
    cases hp : decide (rs[i].1 = h) with
    | true =>
      rw [hp, if_pos rfl, List.append_nil] at hks
      (simp (disch := first | decide | omega | (simp only [nx]; first | done | omega)) only [go_sem, q6, q7, w1, nt]; (repeat with_reducible refine aI ?_))
      refine ⟨by omega, T.ob, fun _ _ h => h, by omega, by (first | (simp (disch := first | decide | omega | (simp only [nx]; first | done | omega)) only [go_sem, w1]; first | done | rfl) | rfl), ⟨own, ?_, ?_⟩, tk, tfr⟩
      · rw [hks]; (first | (simp (disch := first | decide | omega | (simp only [nx]; first | done | omega)) only [go_sem, q6]; first | done | rfl) | rfl)
      · rw [hks]; exact hrow
    | false =>
      rw [hp, if_neg (by simp)] at hks
      (simp (disch := first | decide | omega | (simp only [nx]; first | done | omega)) only [go_sem, q0, q6, q7, hlt, tk, nf]; (repeat with_reducible refine aI ?_))
      refine app_more elRw zeRw hrow.app (by rw [szRw]; exact wRw _) (by rw [szRw]; exact fun d hd => by obtain rfl := List.mem_singleton.1 hd; exact width_encRw _) (by rw [List.length_map]; simp; omega) (by rw [List.length_map, byRw]; simp; omega) ?_
      rw [List.length_map]
      have gk : ∀ j o, T.ob j = some o → (∀ n, o ≠ .row 75 n) → (T.grow own 75 ((rdK rs h i).length + 1)).ob j = some o := fun j o e ho => grow_keepO hT hrow e ho
      (simp (disch := first | decide | omega | (simp only [nx]; first | done | omega)) only [go_sem, q7, w1]; (repeat with_reducible refine aI ?_))
      refine ⟨by omega, (T.grow own 75 ((rdK rs h i).length + 1)).ob, fun _ _ h => h, by omega, by (first | (simp (disch := first | decide | omega | (simp only [nx]; first | done | omega)) only [go_sem, w1]; first | done | rfl) | rfl), ⟨.row T.next, ?_, .inr ⟨T.next, rfl, ?_⟩⟩, gk _ _ tk (fun n h => by cases h), tfr.trans (FrR.grow hT hrow (.inl rfl) k)⟩
      · rw [hks, List.map_append]; (first | (simp (disch := first | decide | omega | (simp only [nx]; first | done | omega)) only [go_sem]; first | done | rfl) | rfl)
      · rw [hks, List.length_append]; exact growM_hit
  · have b1 : decide ((i : Int) < (rs.length : Int)) = false := decide_eq_false (by omega)
    have hie : i = rs.length := by omega
    have e9 : rdK rs h i = rs.filter fun x => x.1 ≠ h := by rw [hie, rdK, List.take_length]
    rw [e9] at q6 hrow
    (simp (disch := first | decide | omega | (simp only [nx]; first | done | omega)) only [go_sem, q0, q3, q6, q7, b1, tk]; (repeat with_reducible refine aI ?_))
    refine dloop_up (fun t => List.contains [8, 9, 42, 43, 44, 45, 46, 47, 48, 49, 50, 51, 52, 53, 54, 55, 56, 57, 58, 59, 60, 61, 62, 63, 64, 65, 66, 67, 68, 69, 70] t) (by kernel_rfl) (by exact hT) L.length (fun i q T => i ≤ L.length ∧ q 9 = .v (.int .i64 ((i : Nat) : Int)) ∧ (∃ own, q 8 = .sl own ((ldK L h i).map encGu) ∧ RowO own 73 (ldK L h i).length T) ∧
        T.ob k = some (.box 34 [.v (.int .i64 ((size : Nat) : Int)), .sl o1 (rs.map encRw), .sl o2 (L.map encGu)]) ∧ RowO own 75 (rs.filter fun x => x.1 ≠ h).length T ∧ FrR k S1 T)
      ⟨by omega, by (first | (simp (disch := first | decide | omega | (simp only [nx]; first | done | omega)) only [go_sem]; first | done | rfl) | rfl), ⟨.full, by (first | (simp (disch := first | decide | omega | (simp only [nx]; first | done | omega)) only [go_sem]; first | done | rfl) | rfl), .inl ⟨rfl, rfl⟩⟩, tk, hrow, tfr⟩ ?_
    clear tk hrow tfr tn0
    rintro i2 q2' T2 hT2 hg2 ⟨le2, q9, ⟨own8, q8, hr8⟩, tk, tr1, tfr⟩
    have q52 := hg2 5 rfl
    have q62 := hg2 6 rfl
    simp (disch := first | decide | omega | (simp only [nx]; first | done | omega)) only [go_sem, q5] at q52
    simp (disch := first | decide | omega | (simp only [nx]; first | done | omega)) only [go_sem, q6] at q62
    (have q02 := hg2 0 rfl; have q32 := hg2 3 rfl; have q42 := hg2 4 rfl; have q52 := hg2 5 rfl; have q62 := hg2 6 rfl; simp (disch := first | decide | omega | (simp only [nx]; first | done | omega)) only [go_sem, q0, q3, q6] at q02 q32 q42 q52 q62; clear hg2)
    have hk8 := ldK_len L h i2
    have tn0 := tfr.box _ _ _ hnk hob1
    by_cases hlt2 : i2 < L.length
    · have c1 : decide ((i2 : Int) < (L.length : Int)) = true := decide_eq_true (by omega)
      have w1 : IntKind.i64.wrap ((i2 : Int) + 1) = ((i2 + 1 : Nat) : Int) := IntWalk.i64_in _ ⟨by omega, by omega⟩
      have la := L[i2].1.2
      have hl8 := ldK_succ (h := h) hlt2
      (simp (disch := first | decide | omega | (simp only [nx]; first | done | omega)) only [go_sem, q02, q32, q8, q9, c1, hlt2, tk, tn0]; (repeat with_reducible refine aI ?_))
      refine ddraw_mk 10 (by kernel_rfl) ?_
      (simp (disch := first | decide | omega | (simp only [nx]; first | done | omega)) only [go_sem, q02, q32, q8, q9, c1, hlt2, tk, tn0, la, lh]; (repeat with_reducible refine aI ?_))
      cases hp : decide (L[i2].1 = h) with
      | true =>
        rw [hp, if_pos rfl, List.append_nil] at hl8
        (simp (disch := first | decide | omega | (simp only [nx]; first | done | omega)) only [go_sem, q8, q9, w1, nt]; (repeat with_reducible refine aI ?_))
        refine ⟨by omega, T2.ob, fun _ _ h => h, by omega, by (first | (simp (disch := first | decide | omega | (simp only [nx]; first | done | omega)) only [go_sem, w1]; first | done | rfl) | rfl), ⟨own8, ?_, ?_⟩, tk, tr1, tfr⟩
        · rw [hl8]; (first | (simp (disch := first | decide | omega | (simp only [nx]; first | done | omega)) only [go_sem, q8]; first | done | rfl) | rfl)
        · rw [hl8]; exact hr8
      | false =>
        rw [hp, if_neg (by simp)] at hl8
        (simp (disch := first | decide | omega | (simp only [nx]; first | done | omega)) only [go_sem, q02, q8, q9, hlt2, tk, nf]; (repeat with_reducible refine aI ?_))
        refine app_more elGu zeGu hr8.app (by rw [szGu]; exact wGu _) (by rw [szGu]; exact fun d hd => by obtain rfl := List.mem_singleton.1 hd; exact width_encGu _) (by rw [List.length_map]; simp; omega) (by rw [List.length_map, byGu]; simp; omega) ?_
        rw [List.length_map]
        have gk : ∀ j o, T2.ob j = some o → (∀ n, o ≠ .row 73 n) → (T2.grow own8 73 ((ldK L h i2).length + 1)).ob j = some o := fun j o e ho => grow_keepO hT2 hr8 e ho
        (simp (disch := first | decide | omega | (simp only [nx]; first | done | omega)) only [go_sem, q9, w1]; (repeat with_reducible refine aI ?_))
        refine ⟨by omega, (T2.grow own8 73 ((ldK L h i2).length + 1)).ob, fun _ _ h => h, by omega, by (first | (simp (disch := first | decide | omega | (simp only [nx]; first | done | omega)) only [go_sem, w1]; first | done | rfl) | rfl), ⟨.row T2.next, ?_, .inr ⟨T2.next, rfl, ?_⟩⟩, gk _ _ tk (fun n h => by cases h), tr1.mono' gk, tfr.trans (FrR.grow hT2 hr8 (.inr (.inl rfl)) k)⟩
        · rw [hl8, List.map_append]; (first | (simp (disch := first | decide | omega | (simp only [nx]; first | done | omega)) only [go_sem]; first | done | rfl) | rfl)
        · rw [hl8, List.length_append]; exact growM_hit
    · have c1 : decide ((i2 : Int) < (L.length : Int)) = false := decide_eq_false (by omega)
      have hie2 : i2 = L.length := by omega
      have e8 : ldK L h i2 = L.filter fun g => g.1 ≠ h := by rw [hie2, ldK, List.take_length]
      rw [e8] at q8 hr8
      (simp (disch := first | decide | omega | (simp only [nx]; first | done | omega)) only [go_sem, q02, q52, q62, q8, q9, c1, tk]; (repeat with_reducible refine aI ?_))
      have keep : ∀ {own : Own} {e : TypeId} {n : Nat} {x y : Ob}, RowO own e n T2 → RowO own e n ((T2.set k x).set k y) := fun {own e n x y} hh => by
        rcases hh with h2 | ⟨g, h2, h3⟩
        · exact .inl h2
        · have hne : g ≠ k := fun e => by rw [e, tk] at h3; cases h3
          exact .inr ⟨g, h2, by rw [set_ob, if_neg hne, set_ob, if_neg hne]; exact h3⟩
      refine ⟨⟨own, own8, by rw [set_ob, if_pos rfl], keep tr1, keep hr8⟩, hfr0.trans (tfr.trans ⟨Nat.le_refl _, fun j t cs hj e => by rw [set_ob, if_neg hj, set_ob, if_neg hj]; exact e, fun j e n _ _ _ hh => by
        have hne : j ≠ k := fun e' => by rw [e', tk] at hh; cases hh
        rw [set_ob, if_neg hne, set_ob, if_neg hne]; exact hh⟩)⟩
end
end Go.Proofs.YtonncfminojejaaDoor
