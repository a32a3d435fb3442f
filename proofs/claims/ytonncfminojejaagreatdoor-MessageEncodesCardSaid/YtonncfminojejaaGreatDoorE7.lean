/- Texts of a proof, part 7. Conditions: none. -/
import Derived.Test.YtonncfminojejaaGreatDoorE6
set_option linter.unusedVariables false
set_option linter.unusedSimpArgs false
namespace Go.Proofs.YtonncfminojejaaGreatDoor
open Go.RowKit
theorem dIf_cut {P : Program} {f : Fm} {S : St} {Q : DQ} {b : Bool} {x y : Code} {k : Fm → St → Prop} (J : Fm → St → Prop) (h : dIf (.v (.bool b)) (dwpF P x (DQ.then J Q) f S) (dwpF P y (DQ.then J Q) f S)) (hk : ∀ f' S', J f' S' → k f' S') : dIf (.v (.bool b)) (dwpF P x (DQ.then k Q) f S) (dwpF P y (DQ.then k Q) f S) := by
  have key : ∀ c : Code, dwp P c (DQ.then J Q) f S → dwp P c (DQ.then k Q) f S := fun c hc => dwp_mono c (fun e f' S' hq => by
    cases e with
    | normal => exact hk _ _ hq
    | exit i => exact hq
    | ret => exact hq) hc
  exact ⟨fun e => key x (h.1 e), fun e => key y (h.2 e)⟩
def encX (n : Int) (x y : D) : D := .agg (.v (.int .i64 n) :: .v (.bool false) :: (zF.1.map bD ++ [x, y]))
theorem agg_X2 (x y : D) : D.agg [.v (.int .i64 2), .v (.bool false), D.v (.int .u8 0), D.v (.int .u8 0), D.v (.int .u8 0), D.v (.int .u8 0), D.v (.int .u8 0), D.v (.int .u8 0), D.v (.int .u8 0), D.v (.int .u8 0), D.v (.int .u8 0), D.v (.int .u8 0), D.v (.int .u8 0), D.v (.int .u8 0), D.v (.int .u8 0), D.v (.int .u8 0), D.v (.int .u8 0), D.v (.int .u8 0), D.v (.int .u8 0), D.v (.int .u8 0), D.v (.int .u8 0), D.v (.int .u8 0), D.v (.int .u8 0), D.v (.int .u8 0), D.v (.int .u8 0), D.v (.int .u8 0), D.v (.int .u8 0), D.v (.int .u8 0), D.v (.int .u8 0), D.v (.int .u8 0), D.v (.int .u8 0), D.v (.int .u8 0), D.v (.int .u8 0), D.v (.int .u8 0), D.v (.int .u8 0), D.v (.int .u8 0), D.v (.int .u8 0), D.v (.int .u8 0), D.v (.int .u8 0), D.v (.int .u8 0), D.v (.int .u8 0), D.v (.int .u8 0), D.v (.int .u8 0), D.v (.int .u8 0), D.v (.int .u8 0), D.v (.int .u8 0), D.v (.int .u8 0), D.v (.int .u8 0), D.v (.int .u8 0), D.v (.int .u8 0), D.v (.int .u8 0), D.v (.int .u8 0), D.v (.int .u8 0), D.v (.int .u8 0), D.v (.int .u8 0), D.v (.int .u8 0), D.v (.int .u8 0), D.v (.int .u8 0), D.v (.int .u8 0), D.v (.int .u8 0), D.v (.int .u8 0), D.v (.int .u8 0), D.v (.int .u8 0), D.v (.int .u8 0), D.v (.int .u8 0), D.v (.int .u8 0), x, y] = encX 2 x y := by kernel_rfl
theorem cl_encX (n : Int) (x y : D) : (encX n x y).cells.length = 68 := by show (_ :: _ :: (_ ++ _)).length = 68; simp [zF]
theorem frz_encX2 (o : Own) (l : List H32) (o2 : Own) : (encX 2 (.sl o (l.map encH)) (.sl o2 [])).frz = encMs (wantM l) := by
  simp only [encX, encMs, msCs, msT, wantM, frz_agg, frzL, D.frz, frzL_append, frz_bB, frz_Hs, List.map_nil]
theorem dapp_hs {S : St} {ty : TypeId} {own own2 : Own} {es : List D} {o : D} {K : D → St → Prop} (h : (own = .full ∧ es = []) ∨ ∃ g, own = .row g ∧ S.ob g = some (.row 45 es.length)) (hl : es.length ≤ 1000000) (hw : ∀ d ∈ es, d.width = 32) (ho : o.width = 32)
    (k : K (.sl (.row S.next) (es ++ [o])) (S.grow own 45 (es.length + 1))) : dapp Tryz.prog S 25 25 ty (.sl own es) (.sl own2 [o]) K := by
  refine dapp_row ?_
  simp only [dappend, elHs, zeHs, byHs, szHs, true_and, Option.isSome_some, List.length_cons, List.length_nil]
  refine ⟨hw, fun d hd => by obtain rfl := List.mem_singleton.1 hd; exact ho, ?_, by omega, by omega, k⟩
  rcases h with ⟨rfl, rfl⟩ | ⟨g, rfl, h⟩
  · trivial
  · exact h
section
set_option maxRecDepth 200000
set_option maxHeartbeats 8000000
end
end Go.Proofs.YtonncfminojejaaGreatDoor

namespace Go.Proofs.YtonncfminojejaaGreatDoor
open Go.RowKit
theorem dapp_es {S : St} {ty : TypeId} {own own2 : Own} {es : List D} {o : D} {K : D → St → Prop} (h : (own = .full ∧ es = []) ∨ ∃ g, own = .row g ∧ S.ob g = some (.row 22 es.length)) (hl : es.length ≤ 1000000) (hw : ∀ d ∈ es, d.width = 1) (ho : o.width = 1)
    (k : K (.sl (.row S.next) (es ++ [o])) (S.grow own 22 (es.length + 1))) : dapp Tryz.prog S 26 26 ty (.sl own es) (.sl own2 [o]) K := by
  refine dapp_row ?_
  simp only [dappend, elEs, zeEs, byEs, szEs, true_and, Option.isSome_some, List.length_cons, List.length_nil]
  refine ⟨hw, fun d hd => by obtain rfl := List.mem_singleton.1 hd; exact ho, ?_, by omega, by omega, k⟩
  rcases h with ⟨rfl, rfl⟩ | ⟨g, rfl, h⟩
  · trivial
  · exact h
section
set_option maxRecDepth 200000
set_option maxHeartbeats 8000000
end
end Go.Proofs.YtonncfminojejaaGreatDoor

namespace Go.Proofs.YtonncfminojejaaGreatDoor
open Go.RowKit
theorem dapp_rowW {P : Program} {S : St} {t tx ty e : TypeId} (he : elT P t = some e) (hx : (elT P tx).isSome = true) (hz : zeroT P e = true) {own : Own} {es es2 : List D} {k off n c : Nat} {K : D → St → Prop} (hs : SrcOk S (szOf P e) (.win k off n c) es2.length (flat es2)) (hw1 : ∀ d ∈ es, d.width = szOf P e) (hw2 : ∀ d ∈ es2, d.width = szOf P e)
    (hown : own = .full ∨ ∃ g, own = .row g ∧ S.ob g = some (.row e es.length)) (hlen : es.length + es2.length ≤ 140737488355328) (hby : (es.length + es2.length) * bytesOf P e ≤ 140737488355328) (hK : K (.sl (.row S.next) (es ++ es2)) (S.grow own e (es.length + es2.length))) : dapp P S t tx ty (.sl own es) (.win k off n c) K := by
  refine dapp_srcW fun base η w vs hM hr => ?_
  simp only [RepL] at hr
  obtain ⟨x1, _, rfl, r1, x2, _, rfl, r2, rfl⟩ := hr
  obtain ⟨us, ⟨⟨A, c', hv, hle, hA⟩, hl, h1⟩, hru⟩ := srcOk_at hM hs r2
  have hsrc : Src P (szOf P e) tx x2 es2.length us w := by
    obtain ⟨e', he'⟩ := Option.isSome_iff_exists.1 hx
    have hk := elT_spec he'
    subst hv
    rcases hA with ⟨rfl, h0⟩ | ⟨a, rfl, hc⟩
    · rw [h0, Nat.zero_mul] at hl
      have hu0 : us = [] := List.eq_nil_of_length_eq_zero hl
      rw [h0, hu0]
      exact Src.ofNil w hk c'
    · exact Src.ofSlice w hk a _ c' us hl hc h1
  obtain ⟨v', η', w', k1, k2, k3⟩ := append_stepS (ty := ty) hM r1 hsrc hru h1 he hz hw1 hw2 hown hlen hby
  exact ⟨_, _, η', v', w', k1, hK, k3, k2⟩
theorem flat_bD2 : ∀ l : List UInt8, flat (l.map bD) = l.map bD
  | [] => rfl
  | b :: l => by rw [List.map_cons, flat_cons, flat_bD2 l]; rfl
theorem dapp_bytesW {S : St} {ty : TypeId} {own : Own} {bs xs : List UInt8} {j off c : Nat} {K : D → St → Prop} (hs : SrcOk S 1 (.win j off xs.length c) xs.length (xs.map bD)) (h : (own = .full ∧ bs = []) ∨ ∃ g, own = .row g ∧ S.ob g = some (.row 5 bs.length)) (hl : bs.length + xs.length ≤ 1099511627776)
    (k : K (.sl (.row S.next) ((bs ++ xs).map bD)) (S.grow own 5 (bs.length + xs.length))) : dapp Tryz.prog S 22 22 ty (.sl own (bs.map bD)) (.win j off xs.length c) K := by
  refine dapp_rowW (es2 := xs.map bD) elBy (by rw [elBy]; rfl) zeBy (by rw [szBy, flat_bD2, List.length_map]; exact hs) (by rw [szBy]; exact wBy bs) (by rw [szBy]; exact wBy xs) ?_ (by rw [List.length_map, List.length_map]; omega) (by rw [List.length_map, List.length_map, byBy]; omega) ?_
  · rcases h with ⟨rfl, _⟩ | ⟨g, rfl, h⟩
    · exact .inl rfl
    · exact .inr ⟨g, rfl, by rw [List.length_map]; exact h⟩
  · rw [List.map_append] at k
    rw [List.length_map, List.length_map]
    exact k
set_option maxRecDepth 200000 in
set_option maxHeartbeats 4000000 in
theorem raw_win {S : St} {k : Nat} {bs : List UInt8} {j off c : Nat} (xs : List UInt8) (hs : SrcOk S 1 (.win j off xs.length c) xs.length (xs.map bD)) (hk : k < S.next) (h : WAt k bs S) (hl : bs.length + xs.length ≤ 1099511627776) : DCalls Tryz.prog 44 [.loc k 0, .win j off xs.length c] S fun d T => d = undefD ∧ WAt k (bs ++ xs) T ∧ WFr k S T := by
  obtain ⟨own, h1, h2⟩ := h
  refine dcalls_inline mixed Tryz.func44 rfl (fun _ _ => by kernel_rfl) (rs := []) rfl (by kernel_rfl) (fun hS => ?_)
  (simp (disch := first | decide | omega | (simp only [nx]; first | done | omega)) only [go_sem, h1]; (repeat with_reducible refine aI ?_))
  have hk2 : (k = S.next) = False := by simp; omega
  rcases h2 with ⟨rfl, rfl⟩ | ⟨g, rfl, hg, h2⟩
  · refine dapp_bytesW hs (.inl ⟨rfl, rfl⟩) (by omega) ?_
    (simp (disch := first | decide | omega | (simp only [nx]; first | done | omega)) only [go_sem, hk2, h1]; (repeat with_reducible refine aI ?_))
    refine ⟨⟨.row S.next, by simp [St.set], .inr ⟨S.next, rfl, by omega, ?_⟩⟩, ⟨by simp [St.set, St.grow, St.leave, St.add], fun j' o hj e => ?_⟩⟩
    · simp [St.grow, St.leave, St.add, St.set, Ne.symm (show k ≠ S.next by omega)]
    · have hlt := hS.lt e
      have hj : j' ≠ k := by rcases hj with h | h; omega; exact h.1
      simp [St.grow, St.leave, St.add, St.set, hj, show j' ≠ S.next by omega, e]
  · have hkg : (k = g) = False := by simp; omega
    refine dapp_bytesW hs (.inr ⟨g, rfl, h2⟩) (by omega) ?_
    (simp (disch := first | decide | omega | (simp only [nx]; first | done | omega)) only [go_sem, hk2, hkg, h1]; (repeat with_reducible refine aI ?_))
    refine ⟨⟨.row S.next, by simp [St.set], .inr ⟨S.next, rfl, by omega, ?_⟩⟩, ⟨by simp [St.set, St.grow, St.leave, St.add, St.drop], fun j' o hj e => ?_⟩⟩
    · simp [St.grow, St.leave, St.add, St.set, St.drop, Ne.symm (show k ≠ S.next by omega)]
    · have hlt := hS.lt e
      have hjg : j' ≠ g := fun e2 => by
        rcases hj with h | ⟨_, t, cs, rfl⟩
        · omega
        · rw [e2, h2] at e; cases e
      have hj : j' ≠ k := by rcases hj with h | h; omega; exact h.1
      simp [St.grow, St.leave, St.add, St.set, St.drop, hj, hjg, show j' ≠ S.next by omega, e]
def headM (m : DMs) : List UInt8 := b8 m.k.toNat :: (if m.k = 1 then (if m.r then 1 else 0) :: m.f.1 else [])
def idsB2 (l : List H32) : List UInt8 := l.flatMap (·.1)
def esB (l : List (List UInt8)) : List UInt8 := l.flatMap fun b => numB b.length ++ b
def bytesM (m : DMs) : List UInt8 := headM m ++ numB (m.ids.length + m.es.length) ++ idsB2 m.ids ++ esB m.es
noncomputable def encRes25 (m : DMs) : D := if rightM m = true then .tup [.sl .no ((bytesM m).map bD), .v .nilIface] else .tup [.sl .no [], erD 1]
theorem encRes25_closed (m : DMs) : (encRes25 m).closed := by
  unfold encRes25
  split
  · have := closed_bB (bytesM m)
    simp only [D.closed, D.all, allL] at this ⊢
    exact ⟨this, trivial, trivial⟩
  · simp [D.closed, D.all, allL, Own.all, erD]
theorem right_kind {m : DMs} (h : rightM m = true) : m.k = 1 ∨ m.k = 2 ∨ m.k = 3 := by
  unfold rightM at h
  by_cases h1 : m.k = 1
  · exact .inl h1
  · by_cases h2 : m.k = 2
    · exact .inr (.inl h2)
    · by_cases h3 : m.k = 3
      · exact .inr (.inr h3)
      · rw [if_neg h1, if_neg h2, if_neg h3] at h; cases h
theorem right_es {m : DMs} (h : rightM m = true) : m.ids.length ≤ 64 ∧ m.es.length ≤ 8 ∧ ∀ b ∈ m.es, 1 ≤ b.length ∧ b.length ≤ 4096 := by
  unfold rightM at h
  by_cases h1 : m.k = 1
  · rw [if_pos h1] at h
    simp only [Bool.and_eq_true, decide_eq_true_eq] at h
    rw [h.2]
    exact ⟨h.1.1, by simp, fun b hb => by cases hb⟩
  · rw [if_neg h1] at h
    by_cases h2 : m.k = 2
    · rw [if_pos h2] at h
      simp only [batchN, Bool.and_eq_true, decide_eq_true_eq] at h
      rw [h.2]
      exact ⟨by omega, by simp, fun b hb => by cases hb⟩
    · rw [if_neg h2] at h
      by_cases h3 : m.k = 3
      · rw [if_pos h3] at h
        simp only [batchN, Bool.and_eq_true, decide_eq_true_eq, Bool.not_eq_true', List.any_eq_false] at h
        rw [h.1.1.2]
        refine ⟨by simp, by omega, fun b hb => ?_⟩
        have := h.2 b hb
        simp only [badE, Bool.or_eq_true, decide_eq_true_eq] at this
        omega
      · rw [if_neg h3] at h; cases h
theorem idsB2_take {l : List H32} {i : Nat} (h : i < l.length) : idsB2 (l.take (i + 1)) = idsB2 (l.take i) ++ l[i].1 := by
  rw [idsB2, List.take_succ_eq_append_getElem h, List.flatMap_append]; simp [idsB2]
theorem esB_take {l : List (List UInt8)} {i : Nat} (h : i < l.length) : esB (l.take (i + 1)) = esB (l.take i) ++ (numB l[i].length ++ l[i]) := by
  rw [esB, List.take_succ_eq_append_getElem h, List.flatMap_append]; simp [esB]
theorem idsB2_len : ∀ (l : List H32), (idsB2 l).length = 32 * l.length
  | [] => rfl
  | h :: l => by
    have := idsB2_len l
    show (h.1 ++ idsB2 l).length = _
    rw [List.length_append, h.2, this, List.length_cons]; omega
theorem esB_len : ∀ (l : List (List UInt8)), (∀ b ∈ l, b.length ≤ 4096) → (esB l).length ≤ 4200 * l.length
  | [], _ => Nat.le_refl _
  | b :: l, h => by
    have h1 := esB_len l fun x hx => h x (List.mem_cons_of_mem _ hx)
    have h2 := h b (List.mem_cons_self ..)
    have h3 := numB_length_le b.length (by omega)
    show ((numB b.length ++ b) ++ esB l).length ≤ _
    simp only [List.length_append, List.length_cons]
    omega
theorem add_setq (T : St) (o o' : Ob) : (T.add o).set T.next o' = T.add o' := by
  unfold St.add St.set
  congr 1
  funext j
  by_cases h : j = T.next <;> simp [h]
theorem srcOk_hash {S : St} {k c : Nat} {t : TypeId} {h : H32} (hk : S.ob k = some (.box t (h.1.map bD))) : SrcOk S 1 (.win k 0 32 c) 32 (h.1.map bD) := by
  have := srcOk_win (z := 1) (off := 0) (n := 32) (c := c) hk (by rw [len_encH]; omega)
  rwa [List.drop_zero, Nat.mul_one, take_hash] at this
theorem srcOk_filter {S : St} {k c : Nat} {t : TypeId} {m : DMs} (hk : S.ob k = some (.box t (msCs m))) : SrcOk S 1 (.win k 2 64 c) 64 (m.f.1.map bD) := by
  have := srcOk_win (z := 1) (off := 2) (n := 64) (c := c) hk (by rw [len_msCs]; omega)
  rwa [Nat.mul_one, f_msCs] at this
section
set_option maxRecDepth 200000
set_option maxHeartbeats 8000000
theorem encode25_d (m : DMs) (hi : m.ids.length ≤ 1000000) (he : m.es.length ≤ 1000000) : DPure Tryz.prog 14 [encMs m] (encRes25 m) := by
  refine dpure_of_dwp mixed Tryz.func14 rfl (fun _ _ => by kernel_rfl) (rs := [.tmp 2, .tmp 3]) rfl (by kernel_rfl) (encRes25_closed m) (fun S hS => ?_)
  (simp (disch := first | decide | omega | (simp only [nx]; first | done | omega)) only [go_sem]; (repeat with_reducible refine aI ?_))
  refine DCalls.of_pure (right25_d m hi he) ?_
  cases hrt : rightM m with
  | false =>
    (simp (disch := first | decide | omega | (simp only [nx]; first | done | omega)) only [go_sem]; (repeat with_reducible refine aI ?_))
    refine ⟨?_, (by (repeat' first | assumption | exact St.Sub.refl _ | exact RowOk.sub (by assumption) (by assumption) | refine St.Sub.trans ?_ (RowOk.sub (by assumption) (by assumption)) | refine St.Sub.add ?_ ?_ _ | refine St.Sub.set ?_ ?_ ?_ _ | refine St.Sub.keep ?_ ?_ | refine St.WF.leave ?_ _ | refine St.WF.add ?_ _ | refine St.WF.set ?_ ?_ _ | refine St.WF.grow ?_ _ _ _ | refine St.WF.keep ?_ ?_ | (first | omega | (simp only [RowOk.lo, nx]; first | done | omega))))⟩
    rw [encRes25, if_neg (by rw [hrt]; simp)]
    rfl
  | true =>
    obtain ⟨n, hn, hn3⟩ : ∃ n : Nat, m.k = (n : Int) ∧ n < 128 := by
      rcases right_kind hrt with h | h | h
      · exact ⟨1, h, by omega⟩
      · exact ⟨2, h, by omega⟩
      · exact ⟨3, h, by omega⟩
    obtain ⟨hids, hes, hbs⟩ := right_es hrt
    have wk : IntKind.u8.wrap m.k = ((b8 n).toNat : Int) := by
      rw [hn, wrap_u8]
      unfold b8
      rw [UInt8.toNat_ofNat']
      omega
    (simp (disch := first | decide | omega | (simp only [nx]; first | done | omega)) only [go_sem, cv_i64u8, wk]; (repeat with_reducible refine aI ?_))
    have hT0 : ((S.add (.box 28 (msCs m))).add (.box 72 [.sl .full []])).WF := (hS.add _).add _
    have tm : ((S.add (.box 28 (msCs m))).add (.box 72 [.sl .full []])).ob S.next = some (.box 28 (msCs m)) := by (first | (simp (disch := first | decide | omega | (simp only [nx]; first | done | omega)) only [go_sem]; first | done | rfl) | rfl)
    have tw : WAt (S.next + 1) [] ((S.add (.box 28 (msCs m))).add (.box 72 [.sl .full []])) := ⟨.full, by (first | (simp (disch := first | decide | omega | (simp only [nx]; first | done | omega)) only [go_sem]; first | done | rfl) | rfl), .inl ⟨rfl, rfl⟩⟩
    have ts : S.Sub ((S.add (.box 28 (msCs m))).add (.box 72 [.sl .full []])) := ((St.Sub.refl S).add hS _).add hS _
    obtain ⟨T0, hT0e⟩ : ∃ T, T = (S.add (.box 28 (msCs m))).add (.box 72 [.sl .full []]) := ⟨_, rfl⟩
    have tn : T0.next = S.next + 1 + 1 := by rw [hT0e]; rfl
    rw [← hT0e] at hT0 tm tw ts ⊢
    clear hT0e
    refine DCalls.mono (DCalls.wf (byte_w (b8 n) (by omega) tw (by simp))) ?_
    rintro _ T1 ⟨⟨rfl, h1, F1⟩, hT1⟩
    have z1 := F1.box S.next _ _ (by omega) tm
    (simp (disch := first | decide | omega | (simp only [nx]; first | done | omega)) only [go_sem, z1]; (repeat with_reducible refine aI ?_))
    refine dIf_cut (fun f' S' => f' 1 = .loc S.next 0 ∧ f' 4 = .loc (S.next + 1) 0 ∧ S'.WF ∧ WAt (S.next + 1) (headM m) S' ∧ WFr (S.next + 1) T0 S') ?_ ?_
    · refine dIf_both (fun hb => ?_) (fun hb => ?_)
      · have hk1 : m.k = 1 := beq_iff_eq.1 hb
        (simp (disch := first | decide | omega | (simp only [nx]; first | done | omega)) only [go_sem, z1]; (repeat with_reducible refine aI ?_))
        have n1 := F1.next
        refine DCalls.mono (DCalls.wf (bool_w m.r (by omega) h1 (by simp))) ?_
        rintro _ T2 ⟨⟨rfl, h2, F2⟩, hT2⟩
        have z2 := F2.box S.next _ _ (by omega) z1
        have n2 := F2.next
        (simp (disch := first | decide | omega | (simp only [nx]; first | done | omega)) only [go_sem, z2]; (repeat with_reducible refine aI ?_))
        have hlf := m.f.2
        have key := raw_win (S := T2) (k := S.next + 1) (j := S.next) (off := 2) (c := 64) m.f.1 (by rw [hlf]; exact srcOk_filter z2) (by omega) h2 (by simp [hlf])
        rw [hlf] at key
        refine DCalls.mono (DCalls.wf key) ?_
        rintro _ T3 ⟨⟨rfl, h3, F3⟩, hT3⟩
        (simp (disch := first | decide | omega | (simp only [nx]; first | done | omega)) only [go_sem]; (repeat with_reducible refine aI ?_))
        refine ⟨?_, F1.trans (F2.trans F3)⟩
        have e : headM m = [] ++ [b8 n] ++ [if m.r = true then 1 else 0] ++ m.f.1 := by
          rw [headM, if_pos hk1, hn]; simp
        rw [e]
        exact h3
      · have hk1 : ¬ m.k = 1 := beq_eq_false_iff_ne.1 hb
        (simp (disch := first | decide | omega | (simp only [nx]; first | done | omega)) only [go_sem]; (repeat with_reducible refine aI ?_))
        refine ⟨?_, F1⟩
        have e : headM m = [] ++ [b8 n] := by rw [headM, if_neg hk1, hn]; simp
        rw [e]
        exact h1
    · rintro f' T2 ⟨f1, f4, hT2, h2, F2⟩
      have z2 := F2.box S.next _ _ (by omega) tm
      have n2 := F2.next
      have wa : IntKind.i64.wrap ((m.ids.length : Int) + (m.es.length : Int)) = ((m.ids.length + m.es.length : Nat) : Int) := (IntWalk.i64_in _ ⟨by omega, by omega⟩).trans (by omega)
      have wu : IntKind.u64.wrap ((m.ids.length + m.es.length : Nat) : Int) = ((m.ids.length + m.es.length : Nat) : Int) := wrap_u64 _ (by unfold IsU64; omega)
      have hhl : (headM m).length ≤ 100 := by
        rw [headM]
        split
        · simp [m.f.2]
        · simp
      (simp (disch := first | decide | omega | (simp only [nx]; first | done | omega)) only [go_sem, f1, f4, z2, cv_i64u64, wa, wu]; (repeat with_reducible refine aI ?_))
      refine DCalls.mono (DCalls.wf (number_w (m.ids.length + m.es.length) (by unfold IsU64; omega) (by omega) h2 (by omega))) ?_
      rintro _ T3 ⟨⟨rfl, h3, F3'⟩, hT3⟩
      have F3 := F2.trans F3'
      have z3 := F3.box S.next _ _ (by omega) tm
      have n3 := F3.next
      (simp (disch := first | decide | omega | (simp only [nx]; first | done | omega)) only [go_sem, f1, f4, z3]; (repeat with_reducible refine aI ?_))
      have hnl := numB_length_le (m.ids.length + m.es.length) (by omega)
      refine dloop_up (fun t => List.contains [6, 38, 39, 40, 41, 42, 43, 44] t) (by kernel_rfl) (by exact hT3) m.ids.length (fun i q T => i ≤ m.ids.length ∧ q 38 = .v (.int .i64 ((i : Nat) : Int)) ∧ WAt (S.next + 1) (headM m ++ numB (m.ids.length + m.es.length) ++ idsB2 (m.ids.take i)) T ∧ WFr (S.next + 1) T0 T)
        ⟨by omega, by (first | (simp (disch := first | decide | omega | (simp only [nx]; first | done | omega)) only [go_sem]; first | done | rfl) | rfl), by rw [List.take_zero]; simpa [idsB2] using h3, F3⟩ ?_
      rintro i q T4 hT4 hg ⟨le, q38, h4, F4⟩
      (have q1 := hg 1 rfl; have q2 := hg 2 rfl; have q3 := hg 3 rfl; have q4 := hg 4 rfl; have q36 := hg 36 rfl; have q37 := hg 37 rfl; simp (disch := first | decide | omega | (simp only [nx]; first | done | omega)) only [go_sem, f1, f4] at q1 q2 q3 q4 q36 q37; clear hg)
      have z4 := F4.box S.next _ _ (by omega) tm
      have n4 := F4.next
      have hil := idsB2_len (m.ids.take i)
      rw [List.length_take] at hil
      by_cases hlt : i < m.ids.length
      · have b1 : decide ((i : Int) < (m.ids.length : Int)) = true := decide_eq_true (by omega)
        have w1 : IntKind.i64.wrap ((i : Int) + 1) = ((i + 1 : Nat) : Int) := IntWalk.i64_in _ ⟨by omega, by omega⟩
        have lh := m.ids[i].2
        (simp (disch := first | decide | omega | (simp only [nx]; first | done | omega)) only [go_sem, q4, q36, q37, q38, b1, hlt, lh]; (repeat with_reducible refine aI ?_))
        rw [add_setq]
        have hob : (T4.add (.box 45 (m.ids[i].1.map bD))).ob T4.next = some (.box 45 (m.ids[i].1.map bD)) := by (first | (simp (disch := first | decide | omega | (simp only [nx]; first | done | omega)) only [go_sem]; first | done | rfl) | rfl)
        have h5 := h4.add hT4 (.box 45 (m.ids[i].1.map bD))
        have F5 := F4.add hT4 (.box 45 (m.ids[i].1.map bD))
        have hT5 := hT4.add (.box 45 (m.ids[i].1.map bD))
        have key := raw_win (S := T4.add (.box 45 (m.ids[i].1.map bD))) (k := S.next + 1) (j := T4.next) (off := 0) (c := 32) m.ids[i].1 (by rw [lh]; exact srcOk_hash hob) (by show S.next + 1 < T4.next + 1; omega) h5 (by simp only [List.length_append, lh]; omega)
        rw [lh] at key
        refine DCalls.mono (DCalls.wf key) ?_
        rintro _ T6 ⟨⟨rfl, h6, F6⟩, hT6⟩
        (simp (disch := first | decide | omega | (simp only [nx]; first | done | omega)) only [go_sem, q4, q38, w1]; (repeat with_reducible refine aI ?_))
        refine ⟨by omega, T6.ob, fun _ _ h => h, by omega, by (first | (simp (disch := first | decide | omega | (simp only [nx]; first | done | omega)) only [go_sem, w1]; first | done | rfl) | rfl), ?_, F5.trans F6⟩
        rw [idsB2_take hlt, ← List.append_assoc]
        exact h6
      · have b1 : decide ((i : Int) < (m.ids.length : Int)) = false := decide_eq_false (by omega)
        have et : m.ids.take i = m.ids := List.take_of_length_le (by omega)
        rw [et] at h4
        (simp (disch := first | decide | omega | (simp only [nx]; first | done | omega)) only [go_sem, q1, q4, q36, q37, q38, b1, z4]; (repeat with_reducible refine aI ?_))
        refine dloop_up (fun t => List.contains [8, 48, 49, 50, 51, 52, 53, 54] t) (by kernel_rfl) (by exact hT4) m.es.length (fun i q T => i ≤ m.es.length ∧ q 48 = .v (.int .i64 ((i : Nat) : Int)) ∧ WAt (S.next + 1) (headM m ++ numB (m.ids.length + m.es.length) ++ idsB2 m.ids ++ esB (m.es.take i)) T ∧ WFr (S.next + 1) T0 T)
          ⟨by omega, by (first | (simp (disch := first | decide | omega | (simp only [nx]; first | done | omega)) only [go_sem]; first | done | rfl) | rfl), by rw [List.take_zero]; simpa [esB] using h4, F4⟩ ?_
        rintro j p T5 hT5 hgz ⟨lez, q48, h5, F5⟩
        (have q2z := hgz 2 rfl; have q3z := hgz 3 rfl; have q4z := hgz 4 rfl; have q46z := hgz 46 rfl; have q47z := hgz 47 rfl; simp (disch := first | decide | omega | (simp only [nx]; first | done | omega)) only [go_sem, q1, q4] at q2z q3z q4z q46z q47z; clear hgz)
        have n5 := F5.next
        have hil2 := idsB2_len m.ids
        have hel := esB_len (m.es.take j) (fun b hb => (hbs b (List.mem_of_mem_take hb)).2)
        rw [List.length_take] at hel
        by_cases hlz : j < m.es.length
        · have b2 : decide ((j : Int) < (m.es.length : Int)) = true := decide_eq_true (by omega)
          have w2 : IntKind.i64.wrap ((j : Int) + 1) = ((j + 1 : Nat) : Int) := IntWalk.i64_in _ ⟨by omega, by omega⟩
          have ce := cells_encB m.es[j]
          have hbj := (hbs _ (List.getElem_mem hlz)).2
          (simp (disch := first | decide | omega | (simp only [nx]; first | done | omega)) only [go_sem, q4z, q46z, q47z, q48, b2, hlz, ce]; (repeat with_reducible refine aI ?_))
          refine DCalls.mono (DCalls.wf (bytes_w .no m.es[j] (by omega) h5 (by simp only [List.length_append]; omega))) ?_
          rintro _ T6 ⟨⟨rfl, h6, F6⟩, hT6⟩
          (simp (disch := first | decide | omega | (simp only [nx]; first | done | omega)) only [go_sem, q4z, q48, w2]; (repeat with_reducible refine aI ?_))
          refine ⟨by omega, T6.ob, fun _ _ h => h, by omega, by (first | (simp (disch := first | decide | omega | (simp only [nx]; first | done | omega)) only [go_sem, w2]; first | done | rfl) | rfl), ?_, F5.trans F6⟩
          rw [esB_take hlz, ← List.append_assoc]
          exact h6
        · have b2 : decide ((j : Int) < (m.es.length : Int)) = false := decide_eq_false (by omega)
          have et2 : m.es.take j = m.es := List.take_of_length_le (by omega)
          rw [et2] at h5 hel
          (simp (disch := first | decide | omega | (simp only [nx]; first | done | omega)) only [go_sem, q4z, q46z, q47z, q48, b2]; (repeat with_reducible refine aI ?_))
          refine DCalls.mono (out_w h5 (by simp only [List.length_append]; omega)) ?_
          rintro _ T6 ⟨o, rfl, h6, F6⟩
          (simp (disch := first | decide | omega | (simp only [nx]; first | done | omega)) only [go_sem]; (repeat with_reducible refine aI ?_))
          have F7 := F5.trans F6
          refine ⟨?_, ⟨by have := F7.next; have := ts.next; omega, fun j ob hj => F7.ob j ob (.inl (by have := hS.lt hj; omega)) (ts.ob j ob hj)⟩⟩
          rw [encRes25, if_pos hrt]
          simp only [D.frz, frzL, frz_bB, bytesM]
end
end Go.Proofs.YtonncfminojejaaGreatDoor

namespace Go.Proofs.YtonncfminojejaaGreatDoor
open Go.RowKit
def zH : H32 := ⟨List.replicate 32 0, by simp⟩
theorem agg_zH : D.agg [D.v (.int .u8 0), D.v (.int .u8 0), D.v (.int .u8 0), D.v (.int .u8 0), D.v (.int .u8 0), D.v (.int .u8 0), D.v (.int .u8 0), D.v (.int .u8 0), D.v (.int .u8 0), D.v (.int .u8 0), D.v (.int .u8 0), D.v (.int .u8 0), D.v (.int .u8 0), D.v (.int .u8 0), D.v (.int .u8 0), D.v (.int .u8 0), D.v (.int .u8 0), D.v (.int .u8 0), D.v (.int .u8 0), D.v (.int .u8 0), D.v (.int .u8 0), D.v (.int .u8 0), D.v (.int .u8 0), D.v (.int .u8 0), D.v (.int .u8 0), D.v (.int .u8 0), D.v (.int .u8 0), D.v (.int .u8 0), D.v (.int .u8 0), D.v (.int .u8 0), D.v (.int .u8 0), D.v (.int .u8 0)] = encH zH := by kernel_rfl
theorem agg_hA : D.agg [D.v (.int .u8 1), D.v (.int .u8 0), D.v (.int .u8 0), D.v (.int .u8 0), D.v (.int .u8 0), D.v (.int .u8 0), D.v (.int .u8 0), D.v (.int .u8 0), D.v (.int .u8 0), D.v (.int .u8 0), D.v (.int .u8 0), D.v (.int .u8 0), D.v (.int .u8 0), D.v (.int .u8 0), D.v (.int .u8 0), D.v (.int .u8 0), D.v (.int .u8 0), D.v (.int .u8 0), D.v (.int .u8 0), D.v (.int .u8 0), D.v (.int .u8 0), D.v (.int .u8 0), D.v (.int .u8 0), D.v (.int .u8 0), D.v (.int .u8 0), D.v (.int .u8 0), D.v (.int .u8 0), D.v (.int .u8 0), D.v (.int .u8 0), D.v (.int .u8 0), D.v (.int .u8 0), D.v (.int .u8 0)] = encH hA := by kernel_rfl
theorem other_no (m : DMs) (h1 : m.r = false) (h2 : m.f = zF) : otherM m = false := by rw [otherM, h1, decide_eq_true h2]; rfl
theorem right_want {l : List H32} {i : Nat} (h : AscH l) (hi : i < (l.length + 7) / 8) : rightM (wantM (chunk8 l i)) = true := by
  obtain ⟨h1, h2⟩ := chunk8_pos hi
  have ha : AscH (chunk8 l i) := List.Pairwise.sublist ((List.take_sublist _ _).trans (List.drop_sublist _ _)) h
  have hk1 : ¬ (wantM (chunk8 l i)).k = 1 := by simp [wantM]
  have hb : batchN (chunk8 l i).length = true := by rw [batchN, decide_eq_true (by omega), decide_eq_true (by omega)]; rfl
  have hk2 : (wantM (chunk8 l i)).k = 2 := rfl
  rw [rightM, if_neg hk1, if_pos hk2, other_no _ rfl rfl]
  show (!false && batchN (chunk8 l i).length && riseH (chunk8 l i) && decide (([] : List (List UInt8)) = [])) = true
  rw [hb, riseH_asc ha]
  rfl
section
set_option maxRecDepth 200000
set_option maxHeartbeats 8000000
theorem aw25r : rightM (wantM [zH]) = true := by
  have := right_want (l := [zH]) (i := 0) (by simp [AscH]) (by simp)
  simpa [chunk8] using this
theorem aw25b : bytesM (wantM [zH]) = [2, 1] ++ List.replicate 32 0 := by decide +kernel
theorem aw25w : (wantsM [hA, hA]).length = 1 := by decide +kernel
theorem awake25_d : DPure Tryz.prog 5 [] (.v (.bool true)) := by
  refine dpure_of_dwp mixed Tryz.func5 rfl (fun _ _ => by kernel_rfl) (rs := [.tmp 0]) rfl (by kernel_rfl) trivial (fun S hS => ?_)
  have lz := zH.2
  (simp (disch := first | decide | omega | (simp only [nx]; first | done | omega)) only [go_sem, placeH, agg_zH, agg_X2, lz, cl_encX]; (repeat with_reducible refine aI ?_))
  refine dcalls_argfrz ?_
  have e : frzL [encX 2 (.sl .full [encH zH]) (.sl .full [])] = [encMs (wantM [zH])] := congrArg (fun x => [x]) (frz_encX2 .full [zH] .full)
  rw [e]
  refine DCalls.of_pure (encode25_d (wantM [zH]) (by simp [wantM]) (by simp [wantM])) ?_
  rw [encRes25, if_pos aw25r]
  have hb34 : (bytesM (wantM [zH])).length = 34 := by rw [aw25b]; rfl
  have hb0 : (bytesM (wantM [zH]))[0]? = some 2 := by rw [aw25b]; rfl
  have hb1 : (bytesM (wantM [zH]))[1]? = some 1 := by rw [aw25b]; rfl
  generalize bytesM (wantM [zH]) = bs at *
  have c1 : ((bs.length : Int) == 34) = true := by rw [hb34]; rfl
  have h0 : 0 < bs.length := by omega
  have h1 : 1 < bs.length := by omega
  have g0 : bs[0] = 2 := by rw [List.getElem?_eq_getElem h0] at hb0; injection hb0
  have g1 : bs[1] = 1 := by rw [List.getElem?_eq_getElem h1] at hb1; injection hb1
  have t0 : (((UInt8.toNat 2 : Nat) : Int) == 2) = true := by decide
  have t1 : (((UInt8.toNat 1 : Nat) : Int) == 1) = true := by decide
  have lA : hA.1.length = 32 := hA.2
  (simp (disch := first | decide | omega | (simp only [nx]; first | done | omega)) only [go_sem, wnil_eq, c1, h0, h1, placeH, agg_hA, bD, g0, g1, t0, t1, lA]; (repeat with_reducible refine aI ?_))
  refine DCalls.of_pure (wants_d .full [hA, hA] (by decide)) ?_
  have c2 : ((((wantsM [hA, hA]).length : Nat) : Int) == 1) = true := by rw [aw25w]; rfl
  (simp (disch := first | decide | omega | (simp only [nx]; first | done | omega)) only [go_sem, c2]; (repeat with_reducible refine aI ?_))
  refine ⟨?_, (by (repeat' first | assumption | exact St.Sub.refl _ | exact RowOk.sub (by assumption) (by assumption) | refine St.Sub.trans ?_ (RowOk.sub (by assumption) (by assumption)) | refine St.Sub.add ?_ ?_ _ | refine St.Sub.set ?_ ?_ ?_ _ | refine St.Sub.keep ?_ ?_ | refine St.WF.leave ?_ _ | refine St.WF.add ?_ _ | refine St.WF.set ?_ ?_ _ | refine St.WF.grow ?_ _ _ _ | refine St.WF.keep ?_ ?_ | (first | omega | (simp only [RowOk.lo, nx]; first | done | omega))))⟩
  rfl
end
end Go.Proofs.YtonncfminojejaaGreatDoor

namespace Go.Proofs.YtonncfminojejaaGreatDoor
open Go.RowKit
theorem bytes_len {m : DMs} (h : rightM m = true) : (bytesM m).length ≤ 100000 := by
  obtain ⟨a1, a2, a3⟩ := right_es h
  have h1 : (headM m).length ≤ 100 := by
    rw [headM]
    split
    · simp [m.f.2]
    · simp
  have h2 := numB_length_le (m.ids.length + m.es.length) (by omega)
  have h3 := idsB2_len m.ids
  have h4 := esB_len m.es fun b hb => (a3 b hb).2
  simp only [bytesM, List.length_append]
  omega
section
set_option maxRecDepth 200000
set_option maxHeartbeats 8000000
end
end Go.Proofs.YtonncfminojejaaGreatDoor

namespace Go.Proofs.YtonncfminojejaaGreatDoor
open Go.RowKit
theorem take_map_len {α β : Type} (f : α → β) (l : List α) : (l.map f).take l.length = l.map f := List.take_of_length_le (by simp)
attribute [go_sem] take_map_len
end Go.Proofs.YtonncfminojejaaGreatDoor

namespace Go.Proofs.YtonncfminojejaaGreatDoor
open Go.RowKit
theorem bin_rem {P : Program} {t : TypeId} {x y : Operand} (k : IntKind) (a b : Int) (hb : b ≠ 0) : dbin P .rem t x y (.v (.int k a)) (.v (.int k b)) = some (True, .v (.int k (a.tmod b))) := by
  simp [dbin, eqGuard, binOp, Op.intDiv, pureRun_bind, pureRun_pure, hb]
end Go.Proofs.YtonncfminojejaaGreatDoor

namespace Go.Proofs.YtonncfminojejaaGreatDoor
open Go.RowKit
section
variable {P : Program} {t : TypeId} {x : Operand}
theorem bin_nil_eql (c : Value) : dbin Tryz.prog .eql 30 x (.const c) (.v .nilIface) (.v .nilIface) = some (True, .v (.bool true)) := by cases x <;> kernel_rfl
theorem bin_nil_neq (c : Value) : dbin Tryz.prog .neq 30 x (.const c) (.v .nilIface) (.v .nilIface) = some (True, .v (.bool false)) := by cases x <;> kernel_rfl
end
attribute [go_sem] bin_nil_eql bin_nil_neq
def RAt (k : Nat) (l : List UInt8) (i : Nat) (T : St) : Prop := ∃ own, T.ob k = some (.box 91 [.sl own (l.map bD), .v (.int .i64 (i : Int)), .v .nilIface])
structure RFr (k : Nat) (S T : St) : Prop where
  next : S.next ≤ T.next
  ob : ∀ j o, j ≠ k → S.ob j = some o → T.ob j = some o
theorem RFr.refl (k : Nat) (S : St) : RFr k S S := ⟨Nat.le_refl _, fun _ _ _ h => h⟩
theorem RFr.trans {k : Nat} {A B C : St} (h : RFr k A B) (g : RFr k B C) : RFr k A C := ⟨Nat.le_trans h.next g.next, fun j o hj e => g.ob j o hj (h.ob j o hj e)⟩
theorem RFr.box {k : Nat} {S T : St} (h : RFr k S T) (j : Nat) (t : TypeId) (cs : List D) (hj : j ≠ k) (e : S.ob j = some (.box t cs)) : T.ob j = some (.box t cs) := h.ob j _ hj e
theorem RFr.add {k : Nat} {S T : St} (h : RFr k S T) (hT : T.WF) (o : Ob) : RFr k S (T.add o) := h.trans ⟨Nat.le_succ _, fun j o' _ e => add_keep hT o j o' e⟩
theorem wd_c (l : List UInt8) : ∀ d ∈ l.map bD, d.cells.length = 1 := by
  intro d hd
  obtain ⟨b, _, rfl⟩ := List.mem_map.1 hd
  rfl
theorem take_bD (l : List UInt8) : List.take l.length (l.map bD) = l.map bD := List.take_of_length_le (by simp)
theorem set_ne {S : St} {a b : Nat} {o : Ob} (h : a ≠ b) : (S.set b o).ob a = S.ob a := by simp [St.set, h]
theorem set_eq {S : St} {b : Nat} {o : Ob} : (S.set b o).ob b = some o := by simp [St.set]
theorem add_ne {S : St} {a : Nat} {o : Ob} (h : a < S.next) : (S.add o).ob a = S.ob a := by simp [St.add, show a ≠ S.next by omega]
theorem add_eq {S : St} {o : Ob} : (S.add o).ob S.next = some o := by simp [St.add]
theorem numP_le {l : List UInt8} {n s : Nat} (h : numP l = some (n, s)) : s ≤ l.length ∧ IsU64 n := by
  have := numGo_bounds l 0 0 (by omega) (by simp) (by omega) n s h
  exact ⟨by omega, this.1⟩
set_option maxRecDepth 200000 in
set_option maxHeartbeats 8000000 in
theorem new_r {S : St} {l : List UInt8} {o : Own} (hl : l.length ≤ 1099511627776) : DCalls Tryz.prog 19 [.sl o (l.map bD)] S fun d T => ∃ k, d = .loc k 0 ∧ S.next ≤ k ∧ k < T.next ∧ RAt k l 0 T ∧ ∀ j o, S.ob j = some o → T.ob j = some o := by
  refine dcalls_inline mixed Tryz.func19 rfl (fun _ _ => by kernel_rfl) (rs := [.tmp 2]) rfl (by kernel_rfl) (fun hS => ?_)
  (simp (disch := first | decide | omega | (simp only [nx]; first | done | omega)) only [go_sem]; (repeat with_reducible refine aI ?_))
  refine dapp_bytes (bs := []) (.inl ⟨rfl, rfl⟩) (by simpa using hl) ?_
  (simp (disch := first | decide | omega | (simp only [nx]; first | done | omega)) only [go_sem]; (repeat with_reducible refine aI ?_))
  refine ⟨S.next + 1, rfl, by omega, by omega, ⟨.row S.next, add_eq (S := S.grow .full 5 l.length)⟩, fun j o e => ?_⟩
  have := hS.lt e
  rw [add_ne (by show j < S.next + 1; omega)]
  simp only [St.grow, St.leave]
  rw [add_ne this, e]
end Go.Proofs.YtonncfminojejaaGreatDoor

namespace Go.Proofs.YtonncfminojejaaGreatDoor
open Go.RowKit
theorem grow_old {S : St} {own : Own} {e : TypeId} {n m : Nat} (hm : m < S.next) (h : ∀ r, own = .row r → m ≠ r) : (S.grow own e n).ob m = S.ob m := by
  cases own with
  | no => simp [St.grow, St.leave, St.add, show m ≠ S.next by omega]
  | full => simp [St.grow, St.leave, St.add, show m ≠ S.next by omega]
  | row r => simp [St.grow, St.leave, St.add, St.drop, show m ≠ S.next by omega, h r rfl]
theorem grow_new {S : St} {own : Own} {e : TypeId} {n : Nat} : (S.grow own e n).ob S.next = some (.row e n) := by
  cases own <;> simp [St.grow, St.leave, St.add, St.drop]
end Go.Proofs.YtonncfminojejaaGreatDoor

namespace Go.Proofs.YtonncfminojejaaGreatDoor
open Go.RowKit
theorem bin_quo {P : Program} {t : TypeId} {x y : Operand} (k : IntKind) (a b : Int) (hb : b ≠ 0) : dbin P .quo t x y (.v (.int k a)) (.v (.int k b)) = some (True, .v (.int k (k.wrap (a.tdiv b)))) := by
  simp [dbin, eqGuard, binOp, Op.intDiv, pureRun_bind, pureRun_pure, hb]
theorem dapp_bytes2 {S : St} {ty : TypeId} {own own2 : Own} {bs xs : List UInt8} {K : D → St → Prop} (h : own = .full ∨ ∃ g, own = .row g ∧ S.ob g = some (.row 5 bs.length)) (hl : bs.length + xs.length ≤ 1099511627776)
    (k : K (.sl (.row S.next) ((bs ++ xs).map bD)) (S.grow own 5 (bs.length + xs.length))) : dapp Tryz.prog S 22 22 ty (.sl own (bs.map bD)) (.sl own2 (xs.map bD)) K := by
  refine dapp_row ?_
  have he : elT Tryz.prog 22 = some 5 := by kernel_rfl
  have hb : bytesOf Tryz.prog 5 = 1 := by kernel_rfl
  have hz : zeroT Tryz.prog 5 = true := by kernel_rfl
  simp only [dappend, he, hz, hb, List.length_map, ← List.map_append, true_and, Option.isSome_some]
  refine ⟨wd_bD bs, wd_bD xs, ?_, by omega, by omega, k⟩
  rcases h with rfl | ⟨g, rfl, h⟩
  · trivial
  · exact h
def NewB (S T : St) (d : D) (bs : List UInt8) : Prop := ∃ own, d = .sl own (bs.map bD) ∧ (own = .full ∨ ∃ g, own = .row g ∧ S.next ≤ g ∧ T.ob g = some (.row 5 bs.length)) ∧ S.next ≤ T.next ∧ ∀ j o, S.ob j = some o → T.ob j = some o
theorem NewB.grow {S T : St} {own own2 : Own} {bs xs : List UInt8} (hS : S.WF) (h : own = .full ∨ ∃ g, own = .row g ∧ S.next ≤ g ∧ T.ob g = some (.row 5 bs.length)) (hn : S.next ≤ T.next) (hk : ∀ j o, S.ob j = some o → T.ob j = some o) : NewB S (T.grow own 5 (bs.length + xs.length)) (.sl (.row T.next) ((bs ++ xs).map bD)) (bs ++ xs) := by
  refine ⟨_, rfl, .inr ⟨T.next, rfl, hn, by rw [grow_new, List.length_append]⟩, by rw [grow_next]; omega, fun j o e => ?_⟩
  have := hS.lt e
  rw [grow_old (by omega) (fun r e2 => ?_), hk j o e]
  rcases h with h | ⟨g, h, hg, _⟩
  · rw [h] at e2; cases e2
  · rw [h] at e2; injection e2 with e2; omega
set_option maxRecDepth 200000 in
set_option maxHeartbeats 8000000 in
theorem refNum_w (m : Nat) : ∀ (n : Nat) (S : St), IsU64 n → n < m → DCalls Tryz.prog 73 [.v (.int .u64 (n : Int))] S fun d T => NewB S T d (numB n) := by
  induction m with
  | zero => intro n S _ h; omega
  | succ m ih =>
    intro n S hn hm
    refine dcalls_inline mixed Tryz.func73 rfl (fun _ _ => by kernel_rfl) (rs := [.tmp 2]) rfl (by kernel_rfl) (fun hS => ?_)
    by_cases h : n < 128
    · have b1 : decide ((n : Int) < 128) = true := by simp; omega
      have w8 : IntKind.u8.wrap (n : Int) = (n : Int) := by rw [wrap_u8]; omega
      (simp (disch := first | decide | omega | (simp only [nx]; first | done | omega)) only [go_sem, b1, w8]; (repeat with_reducible refine aI ?_))
      refine ⟨.full, ?_, .inl rfl, Nat.le_refl _, fun _ _ h => h⟩
      rw [numB_lt n h, ← bD1 n (by omega)]
    · have b1 : decide ((n : Int) < 128) = false := by simp; omega
      have e1 : (n : Int).tmod 128 = ((n % 128 : Nat) : Int) := rfl
      have e2 : (n : Int).tdiv 128 = ((n / 128 : Nat) : Int) := rfl
      have w8 : IntKind.u8.wrap ((n % 128 : Nat) : Int) = ((n % 128 : Nat) : Int) := by rw [wrap_u8]; omega
      have wa : IntKind.u8.wrap (((n % 128 : Nat) : Int) + 128) = ((n % 128 + 128 : Nat) : Int) := by
        rw [show ((n % 128 : Nat) : Int) + 128 = ((n % 128 + 128 : Nat) : Int) from by push_cast; rfl, wrap_u8]; omega
      have wq : IntKind.u64.wrap ((n / 128 : Nat) : Int) = ((n / 128 : Nat) : Int) := wrap_u64 _ (by unfold IsU64 at *; omega)
      (simp (disch := first | decide | omega | (simp only [nx]; first | done | omega)) only [go_sem, b1, bin_rem, bin_quo, e1, e2, w8, wa, wq]; (repeat with_reducible refine aI ?_))
      refine (ih (n / 128) S (by unfold IsU64 at *; omega) (by omega)).mono ?_
      rintro _ T ⟨own, rfl, ho, hT1, hT2⟩
      (simp (disch := first | decide | omega | (simp only [nx]; first | done | omega)) only [go_sem]; (repeat with_reducible refine aI ?_))
      rw [bD1 (n % 128 + 128) (by omega)]
      have hln := numB_length_le (n / 128) (by unfold IsU64 at *; omega)
      refine dapp_bytes2 (.inl rfl) (by simp only [List.length_cons, List.length_nil]; omega) ?_
      (simp (disch := first | decide | omega | (simp only [nx]; first | done | omega)) only [go_sem]; (repeat with_reducible refine aI ?_))
      rw [numB_ge n h]
      exact NewB.grow (own := .full) (own2 := .full) (bs := [b8 (n % 128 + 128)]) (xs := numB (n / 128)) hS (.inl rfl) hT1 hT2
set_option maxRecDepth 200000 in
set_option maxHeartbeats 8000000 in
theorem refByt_w {S : St} (own : Own) (xs : List UInt8) (hx : xs.length ≤ 1000000) : DCalls Tryz.prog 41 [.sl own (xs.map bD)] S fun d T => NewB S T d (numB xs.length ++ xs) := by
  refine dcalls_inline mixed Tryz.func41 rfl (fun _ _ => by kernel_rfl) (rs := [.tmp 2]) rfl (by kernel_rfl) (fun hS => ?_)
  have hu : IsU64 xs.length := by unfold IsU64; omega
  (simp (disch := first | decide | omega | (simp only [nx]; first | done | omega)) only [go_sem, wrap_u64 xs.length hu]; (repeat with_reducible refine aI ?_))
  refine (refNum_w _ xs.length S hu (Nat.lt_succ_self _)).mono ?_
  rintro _ T ⟨own, rfl, ho, hT1, hT2⟩
  (simp (disch := first | decide | omega | (simp only [nx]; first | done | omega)) only [go_sem]; (repeat with_reducible refine aI ?_))
  have hln := numB_length_le xs.length hu
  refine dapp_bytes2 (ho.imp id fun ⟨g, h1, _, h2⟩ => ⟨g, h1, h2⟩) (by omega) ?_
  (simp (disch := first | decide | omega | (simp only [nx]; first | done | omega)) only [go_sem]; (repeat with_reducible refine aI ?_))
  exact NewB.grow (own2 := .full) hS ho hT1 hT2
end Go.Proofs.YtonncfminojejaaGreatDoor

namespace Go.Proofs.YtonncfminojejaaGreatDoor
open Go.RowKit
theorem cv_u8u64' (n : Int) : pureRun Tryz.prog (convert 5 54 (.int .u8 n)) = some (.int .u64 (IntKind.u64.wrap n)) := by kernel_rfl
def parD : Option (Nat × Nat) → D
  | some (n, s) => .tup [.v (.int .u64 (n : Int)), .v (.int .i64 (s : Int))]
  | none => .tup [.v (.int .u64 0), .v (.int .i64 0)]
theorem parD_closed (o : Option (Nat × Nat)) : (parD o).closed := by
  cases o <;> simp [parD, D.closed, D.all, allL]
def HiB (l : List UInt8) (i : Nat) : Prop := ∀ j, j < i → 128 ≤ (l.getD j 0).toNat
theorem HiB.lt {l : List UInt8} {i j : Nat} (h : HiB l i) (hj : j < i) : j < l.length := by
  have := h j hj
  by_cases hl : j < l.length
  · exact hl
  · rw [List.getD_eq_getElem?_getD, List.getElem?_eq_none (by omega)] at this
    simp at this
theorem getD_c {l : List UInt8} {i : Nat} (h : i < l.length) : l.getD i 0 = l[i] := by
  rw [List.getD_eq_getElem?_getD, List.getElem?_eq_getElem h]; rfl
theorem numP_hi {l : List UInt8} : ∀ i, i ≤ 9 → HiB l i → numP l = numGo i (accN l i) (l.drop i)
  | 0, _, _ => by simp [numP, accN]
  | i + 1, hi, h => by
    have hl := h.lt (Nat.lt_succ_self i)
    have hc := h i (Nat.lt_succ_self i)
    rw [getD_c hl] at hc
    rw [numP_hi i (by omega) fun j hj => h j (by omega), drop_cons' l i hl, numGo, if_neg (by omega), if_pos hc, accN, getD_c hl]
theorem numP_ten {l : List UInt8} {i : Nat} (hi : 10 ≤ i) (h : HiB l i) : numP l = none := by
  have hl := h.lt (show 9 < i by omega)
  have hc := h 9 (by omega)
  rw [getD_c hl] at hc
  rw [numP_hi 9 (by omega) fun j hj => h j (by omega), drop_cons' l 9 hl, numGo, if_pos (.inr ⟨rfl, by omega⟩)]
theorem numP_out {l : List UInt8} {i : Nat} (hi : i = l.length) (h : HiB l i) : numP l = none := by
  by_cases h9 : i ≤ 9
  · rw [numP_hi i h9 h, List.drop_eq_nil_of_le (by omega)]; rfl
  · exact numP_ten (by omega) h
theorem numP_big {l : List UInt8} (hl : 9 < l.length) (h : HiB l 9) (hc : 1 < l[9].toNat) : numP l = none := by
  rw [numP_hi 9 (by omega) h, drop_cons' l 9 hl, numGo, if_pos (.inr ⟨rfl, hc⟩)]
theorem numP_zero {l : List UInt8} {i : Nat} (h9 : i ≤ 9) (hl : i < l.length) (h : HiB l i) (h0 : 0 < i) (hc : l[i].toNat = 0) : numP l = none := by
  rw [numP_hi i h9 h, drop_cons' l i hl, numGo, if_neg (by omega), if_neg (by omega), if_pos ⟨hc, h0⟩]
theorem numP_ok {l : List UInt8} {i : Nat} (h9 : i ≤ 9) (hl : i < l.length) (h : HiB l i) (hb : ¬ (i = 9 ∧ 1 < l[i].toNat)) (hh : l[i].toNat < 128) (hz : ¬ (l[i].toNat = 0 ∧ 0 < i)) : numP l = some (accN l (i + 1), i + 1) := by
  rw [numP_hi i h9 h, drop_cons' l i hl, numGo, if_neg (by omega), if_neg (by omega), if_neg hz, accN, getD_c hl]
theorem tmod128 (c : Nat) : (c : Int).tmod 128 = ((c % 128 : Nat) : Int) := by
  rw [Int.tmod_eq_emod_of_nonneg (by omega)]; omega
def hor (l : List UInt8) (I : Nat) : Nat → Nat
  | 0 => 0
  | r + 1 => hor l I r * 128 + (l.getD (I - r) 0).toNat % 128
theorem hor_acc (l : List UInt8) (I : Nat) : ∀ r, r ≤ I + 1 → accN l (I + 1) = accN l (I + 1 - r) + hor l I r * 128 ^ (I + 1 - r)
  | 0, _ => by simp [hor]
  | r + 1, h => by
    rw [hor_acc l I r (by omega), show I + 1 - r = (I - r) + 1 by omega, show I + 1 - (r + 1) = I - r by omega, accN, hor, Nat.pow_succ]
    rw [Nat.add_mul, Nat.mul_assoc (hor l I r) 128, Nat.mul_comm 128 (128 ^ (I - r))]
    omega
theorem hor_all (l : List UInt8) (I : Nat) : accN l (I + 1) = hor l I (I + 1) := by
  have := hor_acc l I (I + 1) (Nat.le_refl _)
  rw [this, Nat.sub_self, Nat.pow_zero, Nat.mul_one]
  exact Nat.zero_add _
theorem hor_le (l : List UInt8) (I r : Nat) (h : r ≤ I + 1) : hor l I r ≤ accN l (I + 1) := by
  rw [hor_acc l I r h]
  have : hor l I r * 1 ≤ hor l I r * 128 ^ (I + 1 - r) := Nat.mul_le_mul_left _ (Nat.pow_pos (by omega))
  omega
theorem hor_step {l : List UInt8} {I r : Nat} (h9 : I ≤ 9) (hr : r < I + 1) (hu : IsU64 (accN l (I + 1))) : IsU64 (hor l I r * 128) ∧ IsU64 (hor l I (r + 1)) := by
  have := hor_le l I (r + 1) (by omega)
  unfold IsU64 at *
  rw [hor] at this ⊢
  omega
theorem hor_0 (l : List UInt8) (I : Nat) : hor l I 0 = 0 := rfl
attribute [irreducible] hor
set_option maxRecDepth 200000 in
set_option maxHeartbeats 16000000 in
theorem parse_d (own : Own) (l : List UInt8) (hl : l.length ≤ 1099511627776) : DPure Tryz.prog 71 [.sl own (l.map bD)] (parD (numP l)) := by
  refine dpure_of_dwp mixed Tryz.func71 rfl (fun _ _ => by kernel_rfl) (rs := [.tmp 2, .tmp 3]) rfl (by kernel_rfl) (parD_closed _) (fun S hS => ?_)
  (simp (disch := first | decide | omega | (simp only [nx]; first | done | omega)) only [go_sem]; (repeat with_reducible refine aI ?_))
  (refine dloop_st (fun t => List.contains [4, 7, 8, 9, 10, 11, 12, 13, 14, 15, 16, 17, 18, 19, 20, 21, 22, 23] t) (by kernel_rfl) ?_ (11) (fun i f => i ≤ 11 ∧ f 4 = .v (.int .i64 (i : Nat)) ∧ (HiB l i) ∧ (i ≤ l.length)) ?_ ?_; (exact (by (repeat' first | assumption | refine St.WF.leave ?_ _ | refine St.WF.add ?_ _ | refine St.WF.set ?_ ?_ _ | refine St.WF.grow ?_ _ _ _ | refine St.WF.keep ?_ ?_ | (first | omega | (simp only [RowOk.lo, nx]; first | done | omega))))); (exact ⟨(by omega), (by (first | (simp (disch := first | decide | omega | (simp only [nx]; first | done | omega)) only [go_sem]; first | done | rfl) | rfl)), (fun j hj => absurd hj (Nat.not_lt_zero _)), (by omega)⟩); intro i g tn hn hT hg hI; obtain ⟨le, q4, hh, hle⟩ := hI; have q0 := hg 0 rfl; have q2 := hg 2 rfl; have q3 := hg 3 rfl; simp (disch := first | decide | omega | (simp only [nx]; first | done | omega)) only [go_sem] at q0 q2 q3; clear hg; have hn' := hn; try simp only [add_next, set_next, grow_next, leave_next, drop_next] at hn')
  by_cases hlen : i < l.length
  · have c1 : decide ((i : Int) < (l.length : Int)) = true := decide_eq_true (by omega)
    have e1 : decide ((l.length : Int) ≤ (i : Int)) = false := decide_eq_false (by omega)
    have hgi := getD_map bD l i hlen
    by_cases h11 : i < 11
    · have c2 : decide ((i : Int) < 11) = true := decide_eq_true (by omega)
      by_cases hhi : 128 ≤ l[i].toNat
      · have c3 : decide ((128 : Int) ≤ (l[i].toNat : Int)) = true := decide_eq_true (by omega)
        have w1 : IntKind.i64.wrap ((i : Int) + 1) = ((i + 1 : Nat) : Int) := IntWalk.i64_in _ ⟨by omega, by omega⟩
        (simp (disch := first | decide | omega | (simp only [nx]; first | done | omega)) only [go_sem, q0, q4, c1, c2, c3, hgi, bD_eq]; (repeat with_reducible refine aI ?_))
        (refine ⟨by omega, (by (repeat' first | assumption | exact St.Sub.refl _ | exact RowOk.sub (by assumption) (by assumption) | refine St.Sub.trans ?_ (RowOk.sub (by assumption) (by assumption)) | refine St.Sub.add ?_ ?_ _ | refine St.Sub.set ?_ ?_ ?_ _ | refine St.Sub.keep ?_ ?_ | refine St.WF.leave ?_ _ | refine St.WF.add ?_ _ | refine St.WF.set ?_ ?_ _ | refine St.WF.grow ?_ _ _ _ | refine St.WF.keep ?_ ?_ | (first | omega | (simp only [RowOk.lo, nx]; first | done | omega)))), ?_⟩; refine ⟨by omega, ?_, ?_, ?_⟩; all_goals (try (first | (simp (disch := first | decide | omega | (simp only [nx]; first | done | omega)) only [go_sem, w1]; first | done | rfl) | rfl)))
        · intro j hj
          by_cases hji : j = i
          · subst hji; rw [getD_c hlen]; exact hhi
          · exact hh j (by omega)
        · omega
      · have c3 : decide ((128 : Int) ≤ (l[i].toNat : Int)) = false := decide_eq_false (by omega)
        by_cases h10 : 10 ≤ i
        · have e2 : decide ((10 : Int) ≤ (i : Int)) = true := decide_eq_true (by omega)
          (simp (disch := first | decide | omega | (simp only [nx]; first | done | omega)) only [go_sem, q0, q4, c1, c2, c3, e1, e2, hgi, bD_eq]; (repeat with_reducible refine aI ?_))
          refine ⟨?_, (by (repeat' first | assumption | exact St.Sub.refl _ | exact RowOk.sub (by assumption) (by assumption) | refine St.Sub.trans ?_ (RowOk.sub (by assumption) (by assumption)) | refine St.Sub.add ?_ ?_ _ | refine St.Sub.set ?_ ?_ ?_ _ | refine St.Sub.keep ?_ ?_ | refine St.WF.leave ?_ _ | refine St.WF.add ?_ _ | refine St.WF.set ?_ ?_ _ | refine St.WF.grow ?_ _ _ _ | refine St.WF.keep ?_ ?_ | (first | omega | (simp only [RowOk.lo, nx]; first | done | omega))))⟩
          rw [numP_ten h10 hh]; rfl
        have e2 : decide ((10 : Int) ≤ (i : Int)) = false := decide_eq_false (by omega)
        obtain ⟨I, hI⟩ : ∃ I, I = i := ⟨_, rfl⟩
        have hI9 : I ≤ 9 := by omega
        by_cases h9 : i = 9
        · have h9l : 9 < l.length := by omega
          have hl9 : l[i] = l[9]'h9l := by simp only [h9]
          have e3 : ((i : Int) == 9) = true := by rw [h9]; decide
          have hg9 := getD_map bD l 9 h9l
          have hh9 : HiB l 9 := by rw [← h9]; exact hh
          by_cases hb : 1 < (l[9]'h9l).toNat
          · have e4 : decide ((1 : Int) < ((l[Int.toNat 9]'h9l).toNat : Int)) = true := decide_eq_true (by have : 1 < (l[Int.toNat 9]'h9l).toNat := hb; omega)
            (simp (disch := first | decide | omega | (simp only [nx]; first | done | omega)) only [go_sem, q0, q4, c1, c2, c3, e1, e2, e3, e4, hgi, hg9, bD_eq]; (repeat with_reducible refine aI ?_))
            refine ⟨?_, (by (repeat' first | assumption | exact St.Sub.refl _ | exact RowOk.sub (by assumption) (by assumption) | refine St.Sub.trans ?_ (RowOk.sub (by assumption) (by assumption)) | refine St.Sub.add ?_ ?_ _ | refine St.Sub.set ?_ ?_ ?_ _ | refine St.Sub.keep ?_ ?_ | refine St.WF.leave ?_ _ | refine St.WF.add ?_ _ | refine St.WF.set ?_ ?_ _ | refine St.WF.grow ?_ _ _ _ | refine St.WF.keep ?_ ?_ | (first | omega | (simp only [RowOk.lo, nx]; first | done | omega))))⟩
            rw [numP_big h9l hh9 hb]; rfl
          have e4 : decide ((1 : Int) < ((l[Int.toNat 9]'h9l).toNat : Int)) = false := decide_eq_false (by have : ¬ 1 < (l[Int.toNat 9]'h9l).toNat := hb; omega)
          have e5 : decide ((0 : Int) < (i : Int)) = true := decide_eq_true (by omega)
          by_cases hz : l[i].toNat = 0
          · have e6 : ((l[i].toNat : Int) == 0) = true := by rw [hz]; rfl
            (simp (disch := first | decide | omega | (simp only [nx]; first | done | omega)) only [go_sem, q0, q4, c1, c2, c3, e1, e2, e3, e4, e5, e6, hgi, hg9, bD_eq]; (repeat with_reducible refine aI ?_))
            refine ⟨?_, (by (repeat' first | assumption | exact St.Sub.refl _ | exact RowOk.sub (by assumption) (by assumption) | refine St.Sub.trans ?_ (RowOk.sub (by assumption) (by assumption)) | refine St.Sub.add ?_ ?_ _ | refine St.Sub.set ?_ ?_ ?_ _ | refine St.Sub.keep ?_ ?_ | refine St.WF.leave ?_ _ | refine St.WF.add ?_ _ | refine St.WF.set ?_ ?_ _ | refine St.WF.grow ?_ _ _ _ | refine St.WF.keep ?_ ?_ | (first | omega | (simp only [RowOk.lo, nx]; first | done | omega))))⟩
            rw [numP_zero (by omega) hlen hh (by omega) hz]; rfl
          have e6 : ((l[i].toNat : Int) == 0) = false := by simp; omega
          have hok := numP_ok (by omega) hlen hh (by rw [hl9]; omega) (by omega) (by omega)
          have hNs := (numP_le hok).2
          (simp (disch := first | decide | omega | (simp only [nx]; first | done | omega)) only [go_sem, q0, q4, c1, c2, c3, e1, e2, e3, e4, e5, e6, hgi, hg9, bD_eq]; (repeat with_reducible refine aI ?_))
          subst hI
          (refine dloop_st (fun t => List.contains [5, 6, 54, 55, 56, 57, 58, 59, 60, 61, 62, 63, 64, 65, 66] t) (by kernel_rfl) ?_ (I + 1) (fun iY f => iY ≤ I + 1 ∧ f 5 = .v (.int .u64 ((hor l I iY : Nat) : Int)) ∧ f 6 = .v (.int .i64 ((I : Int) - (iY : Nat))) ∧ (True)) ?_ ?_; (exact (by (repeat' first | assumption | refine St.WF.leave ?_ _ | refine St.WF.add ?_ _ | refine St.WF.set ?_ ?_ _ | refine St.WF.grow ?_ _ _ _ | refine St.WF.keep ?_ ?_ | (first | omega | (simp only [RowOk.lo, nx]; first | done | omega))))); (exact ⟨(by omega), (by (first | (simp (disch := first | decide | omega | (simp only [nx]; first | done | omega)) only [go_sem, q0, q4, hor_0, Int.natCast_zero, Int.sub_zero]; first | done | rfl) | rfl)), (by (first | (simp (disch := first | decide | omega | (simp only [nx]; first | done | omega)) only [go_sem, q0, q4, hor_0, Int.natCast_zero, Int.sub_zero]; first | done | rfl) | rfl)), (trivial)⟩); intro iY gY tnY hnY hTY hgY hIY; obtain ⟨leY, q5Y, q6Y, hx⟩ := hIY; have q0Y := hgY 0 rfl; have q2Y := hgY 2 rfl; have q3Y := hgY 3 rfl; have q4Y := hgY 4 rfl; simp (disch := first | decide | omega | (simp only [nx]; first | done | omega)) only [go_sem, q0, q4, hor_0, Int.natCast_zero, Int.sub_zero] at q0Y q2Y q3Y q4Y; clear hgY; have hnY' := hnY; try simp only [add_next, set_next, grow_next, leave_next, drop_next] at hnY')
          by_cases hlt : iY < I + 1
          · have d1 : decide ((0 : Int) ≤ (I : Int) - (iY : Int)) = true := decide_eq_true (by omega)
            have d2 : ((I : Int) - (iY : Int)).toNat = I - iY := by omega
            have d3 : (0 : Int) ≤ (I : Int) - (iY : Int) := by omega
            have d4 : (I : Int) - (iY : Int) < (l.length : Int) := by omega
            have hIl : I - iY < l.length := by omega
            have hstep := hor_step hI9 hlt hNs
            have hgd := getD_map bD l (I - iY) hIl
            obtain ⟨H0, hH0⟩ : ∃ H0, H0 = hor l I iY := ⟨_, rfl⟩
            obtain ⟨H1, hH1⟩ : ∃ H1, H1 = hor l I (iY + 1) := ⟨_, rfl⟩
            have hHs : H1 = H0 * 128 + l[I - iY].toNat % 128 := by rw [hH1, hor, hH0, getD_c hIl]
            rw [← hH0, ← hH1] at hstep
            rw [← hH0] at q5Y
            have wm : IntKind.u64.wrap ((H0 : Int) * 128) = ((H0 * 128 : Nat) : Int) := by
              rw [show (H0 : Int) * 128 = ((H0 * 128 : Nat) : Int) by push_cast; rfl]
              exact wrap_u64 _ hstep.1
            have wa : IntKind.u64.wrap (((H0 * 128 : Nat) : Int) + ((l[I - iY].toNat % 128 : Nat) : Int)) = (H1 : Int) := by
              rw [show ((H0 * 128 : Nat) : Int) + ((l[I - iY].toNat % 128 : Nat) : Int) = (H1 : Int) by rw [hHs]; push_cast; rfl]
              exact wrap_u64 _ hstep.2
            have wb : IntKind.u64.wrap ((l[I - iY].toNat % 128 : Nat) : Int) = ((l[I - iY].toNat % 128 : Nat) : Int) := wrap_u64 _ (by unfold IsU64; omega)
            have ws : IntKind.i64.wrap ((I : Int) - (iY : Int) - 1) = (I : Int) - ((iY + 1 : Nat) : Int) := by rw [IntWalk.i64_in _ ⟨by omega, by omega⟩]; omega
            have rm : ∀ {x y : Operand}, dbin Tryz.prog .rem 5 x y (.v (.int .u8 (l[I - iY].toNat : Int))) (.v (.int .u8 128)) = some (True, .v (.int .u8 ((l[I - iY].toNat % 128 : Nat) : Int))) := by
              intro x y
              rw [bin_rem _ _ _ (by omega), tmod128]
            (simp (disch := first | decide | omega | (simp only [nx]; first | done | omega)) only [go_sem, q0, q2, q3, q4, q0Y, q4Y, q5Y, q6Y, d1, d2, d3, d4, hgd, bD_eq, rm, cv_u8u64', wb, wm, wa]; (repeat with_reducible refine aI ?_))
            refine ⟨by omega, ⟨by omega, fun _ _ h => h⟩, ?_⟩
            refine ⟨by omega, ?_, ?_⟩
            · simp (disch := first | decide | omega | (simp only [nx]; first | done | omega)) only [go_sem, hH1]
            · simp (disch := first | decide | omega | (simp only [nx]; first | done | omega)) only [go_sem, ws]
          · have hie : iY = I + 1 := by omega
            subst hie
            have d1 : decide ((0 : Int) ≤ (I : Int) - ((I + 1 : Nat) : Int)) = false := decide_eq_false (by omega)
            have wp : IntKind.i64.wrap ((I : Int) + 1) = ((I + 1 : Nat) : Int) := IntWalk.i64_in _ ⟨by omega, by omega⟩
            (simp (disch := first | decide | omega | (simp only [nx]; first | done | omega)) only [go_sem, q0, q2, q3, q4, q0Y, q4Y, q5Y, q6Y, d1, wp]; (repeat with_reducible refine aI ?_))
            refine ⟨?_, ⟨by show S.next ≤ tnY; omega, fun _ _ h => h⟩⟩
            rw [hok, hor_all]
            rfl
        have e3 : ((i : Int) == 9) = false := by simp; omega
        by_cases h0 : i = 0
        · have e5 : decide ((0 : Int) < (i : Int)) = false := decide_eq_false (by omega)
          have hok := numP_ok (by omega) hlen hh (by omega) (by omega) (by omega)
          have hNs := (numP_le hok).2
          (simp (disch := first | decide | omega | (simp only [nx]; first | done | omega)) only [go_sem, q0, q4, c1, c2, c3, e1, e2, e3, e5, hgi, bD_eq]; (repeat with_reducible refine aI ?_))
          subst hI
          (refine dloop_st (fun t => List.contains [5, 6, 54, 55, 56, 57, 58, 59, 60, 61, 62, 63, 64, 65, 66] t) (by kernel_rfl) ?_ (I + 1) (fun iY f => iY ≤ I + 1 ∧ f 5 = .v (.int .u64 ((hor l I iY : Nat) : Int)) ∧ f 6 = .v (.int .i64 ((I : Int) - (iY : Nat))) ∧ (True)) ?_ ?_; (exact (by (repeat' first | assumption | refine St.WF.leave ?_ _ | refine St.WF.add ?_ _ | refine St.WF.set ?_ ?_ _ | refine St.WF.grow ?_ _ _ _ | refine St.WF.keep ?_ ?_ | (first | omega | (simp only [RowOk.lo, nx]; first | done | omega))))); (exact ⟨(by omega), (by (first | (simp (disch := first | decide | omega | (simp only [nx]; first | done | omega)) only [go_sem, q0, q4, hor_0, Int.natCast_zero, Int.sub_zero]; first | done | rfl) | rfl)), (by (first | (simp (disch := first | decide | omega | (simp only [nx]; first | done | omega)) only [go_sem, q0, q4, hor_0, Int.natCast_zero, Int.sub_zero]; first | done | rfl) | rfl)), (trivial)⟩); intro iY gY tnY hnY hTY hgY hIY; obtain ⟨leY, q5Y, q6Y, hx⟩ := hIY; have q0Y := hgY 0 rfl; have q2Y := hgY 2 rfl; have q3Y := hgY 3 rfl; have q4Y := hgY 4 rfl; simp (disch := first | decide | omega | (simp only [nx]; first | done | omega)) only [go_sem, q0, q4, hor_0, Int.natCast_zero, Int.sub_zero] at q0Y q2Y q3Y q4Y; clear hgY; have hnY' := hnY; try simp only [add_next, set_next, grow_next, leave_next, drop_next] at hnY')
          by_cases hlt : iY < I + 1
          · have d1 : decide ((0 : Int) ≤ (I : Int) - (iY : Int)) = true := decide_eq_true (by omega)
            have d2 : ((I : Int) - (iY : Int)).toNat = I - iY := by omega
            have d3 : (0 : Int) ≤ (I : Int) - (iY : Int) := by omega
            have d4 : (I : Int) - (iY : Int) < (l.length : Int) := by omega
            have hIl : I - iY < l.length := by omega
            have hstep := hor_step hI9 hlt hNs
            have hgd := getD_map bD l (I - iY) hIl
            obtain ⟨H0, hH0⟩ : ∃ H0, H0 = hor l I iY := ⟨_, rfl⟩
            obtain ⟨H1, hH1⟩ : ∃ H1, H1 = hor l I (iY + 1) := ⟨_, rfl⟩
            have hHs : H1 = H0 * 128 + l[I - iY].toNat % 128 := by rw [hH1, hor, hH0, getD_c hIl]
            rw [← hH0, ← hH1] at hstep
            rw [← hH0] at q5Y
            have wm : IntKind.u64.wrap ((H0 : Int) * 128) = ((H0 * 128 : Nat) : Int) := by
              rw [show (H0 : Int) * 128 = ((H0 * 128 : Nat) : Int) by push_cast; rfl]
              exact wrap_u64 _ hstep.1
            have wa : IntKind.u64.wrap (((H0 * 128 : Nat) : Int) + ((l[I - iY].toNat % 128 : Nat) : Int)) = (H1 : Int) := by
              rw [show ((H0 * 128 : Nat) : Int) + ((l[I - iY].toNat % 128 : Nat) : Int) = (H1 : Int) by rw [hHs]; push_cast; rfl]
              exact wrap_u64 _ hstep.2
            have wb : IntKind.u64.wrap ((l[I - iY].toNat % 128 : Nat) : Int) = ((l[I - iY].toNat % 128 : Nat) : Int) := wrap_u64 _ (by unfold IsU64; omega)
            have ws : IntKind.i64.wrap ((I : Int) - (iY : Int) - 1) = (I : Int) - ((iY + 1 : Nat) : Int) := by rw [IntWalk.i64_in _ ⟨by omega, by omega⟩]; omega
            have rm : ∀ {x y : Operand}, dbin Tryz.prog .rem 5 x y (.v (.int .u8 (l[I - iY].toNat : Int))) (.v (.int .u8 128)) = some (True, .v (.int .u8 ((l[I - iY].toNat % 128 : Nat) : Int))) := by
              intro x y
              rw [bin_rem _ _ _ (by omega), tmod128]
            (simp (disch := first | decide | omega | (simp only [nx]; first | done | omega)) only [go_sem, q0, q2, q3, q4, q0Y, q4Y, q5Y, q6Y, d1, d2, d3, d4, hgd, bD_eq, rm, cv_u8u64', wb, wm, wa]; (repeat with_reducible refine aI ?_))
            refine ⟨by omega, ⟨by omega, fun _ _ h => h⟩, ?_⟩
            refine ⟨by omega, ?_, ?_⟩
            · simp (disch := first | decide | omega | (simp only [nx]; first | done | omega)) only [go_sem, hH1]
            · simp (disch := first | decide | omega | (simp only [nx]; first | done | omega)) only [go_sem, ws]
          · have hie : iY = I + 1 := by omega
            subst hie
            have d1 : decide ((0 : Int) ≤ (I : Int) - ((I + 1 : Nat) : Int)) = false := decide_eq_false (by omega)
            have wp : IntKind.i64.wrap ((I : Int) + 1) = ((I + 1 : Nat) : Int) := IntWalk.i64_in _ ⟨by omega, by omega⟩
            (simp (disch := first | decide | omega | (simp only [nx]; first | done | omega)) only [go_sem, q0, q2, q3, q4, q0Y, q4Y, q5Y, q6Y, d1, wp]; (repeat with_reducible refine aI ?_))
            refine ⟨?_, ⟨by show S.next ≤ tnY; omega, fun _ _ h => h⟩⟩
            rw [hok, hor_all]
            rfl
        have e5 : decide ((0 : Int) < (i : Int)) = true := decide_eq_true (by omega)
        by_cases hz : l[i].toNat = 0
        · have e6 : ((l[i].toNat : Int) == 0) = true := by rw [hz]; rfl
          (simp (disch := first | decide | omega | (simp only [nx]; first | done | omega)) only [go_sem, q0, q4, c1, c2, c3, e1, e2, e3, e5, e6, hgi, bD_eq]; (repeat with_reducible refine aI ?_))
          refine ⟨?_, (by (repeat' first | assumption | exact St.Sub.refl _ | exact RowOk.sub (by assumption) (by assumption) | refine St.Sub.trans ?_ (RowOk.sub (by assumption) (by assumption)) | refine St.Sub.add ?_ ?_ _ | refine St.Sub.set ?_ ?_ ?_ _ | refine St.Sub.keep ?_ ?_ | refine St.WF.leave ?_ _ | refine St.WF.add ?_ _ | refine St.WF.set ?_ ?_ _ | refine St.WF.grow ?_ _ _ _ | refine St.WF.keep ?_ ?_ | (first | omega | (simp only [RowOk.lo, nx]; first | done | omega))))⟩
          rw [numP_zero (by omega) hlen hh (by omega) hz]; rfl
        have e6 : ((l[i].toNat : Int) == 0) = false := by simp; omega
        have hok := numP_ok (by omega) hlen hh (by omega) (by omega) (by omega)
        have hNs := (numP_le hok).2
        (simp (disch := first | decide | omega | (simp only [nx]; first | done | omega)) only [go_sem, q0, q4, c1, c2, c3, e1, e2, e3, e5, e6, hgi, bD_eq]; (repeat with_reducible refine aI ?_))
        subst hI
        (refine dloop_st (fun t => List.contains [5, 6, 54, 55, 56, 57, 58, 59, 60, 61, 62, 63, 64, 65, 66] t) (by kernel_rfl) ?_ (I + 1) (fun iY f => iY ≤ I + 1 ∧ f 5 = .v (.int .u64 ((hor l I iY : Nat) : Int)) ∧ f 6 = .v (.int .i64 ((I : Int) - (iY : Nat))) ∧ (True)) ?_ ?_; (exact (by (repeat' first | assumption | refine St.WF.leave ?_ _ | refine St.WF.add ?_ _ | refine St.WF.set ?_ ?_ _ | refine St.WF.grow ?_ _ _ _ | refine St.WF.keep ?_ ?_ | (first | omega | (simp only [RowOk.lo, nx]; first | done | omega))))); (exact ⟨(by omega), (by (first | (simp (disch := first | decide | omega | (simp only [nx]; first | done | omega)) only [go_sem, q0, q4, hor_0, Int.natCast_zero, Int.sub_zero]; first | done | rfl) | rfl)), (by (first | (simp (disch := first | decide | omega | (simp only [nx]; first | done | omega)) only [go_sem, q0, q4, hor_0, Int.natCast_zero, Int.sub_zero]; first | done | rfl) | rfl)), (trivial)⟩); intro iY gY tnY hnY hTY hgY hIY; obtain ⟨leY, q5Y, q6Y, hx⟩ := hIY; have q0Y := hgY 0 rfl; have q2Y := hgY 2 rfl; have q3Y := hgY 3 rfl; have q4Y := hgY 4 rfl; simp (disch := first | decide | omega | (simp only [nx]; first | done | omega)) only [go_sem, q0, q4, hor_0, Int.natCast_zero, Int.sub_zero] at q0Y q2Y q3Y q4Y; clear hgY; have hnY' := hnY; try simp only [add_next, set_next, grow_next, leave_next, drop_next] at hnY')
        by_cases hlt : iY < I + 1
        · have d1 : decide ((0 : Int) ≤ (I : Int) - (iY : Int)) = true := decide_eq_true (by omega)
          have d2 : ((I : Int) - (iY : Int)).toNat = I - iY := by omega
          have d3 : (0 : Int) ≤ (I : Int) - (iY : Int) := by omega
          have d4 : (I : Int) - (iY : Int) < (l.length : Int) := by omega
          have hIl : I - iY < l.length := by omega
          have hstep := hor_step hI9 hlt hNs
          have hgd := getD_map bD l (I - iY) hIl
          obtain ⟨H0, hH0⟩ : ∃ H0, H0 = hor l I iY := ⟨_, rfl⟩
          obtain ⟨H1, hH1⟩ : ∃ H1, H1 = hor l I (iY + 1) := ⟨_, rfl⟩
          have hHs : H1 = H0 * 128 + l[I - iY].toNat % 128 := by rw [hH1, hor, hH0, getD_c hIl]
          rw [← hH0, ← hH1] at hstep
          rw [← hH0] at q5Y
          have wm : IntKind.u64.wrap ((H0 : Int) * 128) = ((H0 * 128 : Nat) : Int) := by
            rw [show (H0 : Int) * 128 = ((H0 * 128 : Nat) : Int) by push_cast; rfl]
            exact wrap_u64 _ hstep.1
          have wa : IntKind.u64.wrap (((H0 * 128 : Nat) : Int) + ((l[I - iY].toNat % 128 : Nat) : Int)) = (H1 : Int) := by
            rw [show ((H0 * 128 : Nat) : Int) + ((l[I - iY].toNat % 128 : Nat) : Int) = (H1 : Int) by rw [hHs]; push_cast; rfl]
            exact wrap_u64 _ hstep.2
          have wb : IntKind.u64.wrap ((l[I - iY].toNat % 128 : Nat) : Int) = ((l[I - iY].toNat % 128 : Nat) : Int) := wrap_u64 _ (by unfold IsU64; omega)
          have ws : IntKind.i64.wrap ((I : Int) - (iY : Int) - 1) = (I : Int) - ((iY + 1 : Nat) : Int) := by rw [IntWalk.i64_in _ ⟨by omega, by omega⟩]; omega
          have rm : ∀ {x y : Operand}, dbin Tryz.prog .rem 5 x y (.v (.int .u8 (l[I - iY].toNat : Int))) (.v (.int .u8 128)) = some (True, .v (.int .u8 ((l[I - iY].toNat % 128 : Nat) : Int))) := by
            intro x y
            rw [bin_rem _ _ _ (by omega), tmod128]
          (simp (disch := first | decide | omega | (simp only [nx]; first | done | omega)) only [go_sem, q0, q2, q3, q4, q0Y, q4Y, q5Y, q6Y, d1, d2, d3, d4, hgd, bD_eq, rm, cv_u8u64', wb, wm, wa]; (repeat with_reducible refine aI ?_))
          refine ⟨by omega, ⟨by omega, fun _ _ h => h⟩, ?_⟩
          refine ⟨by omega, ?_, ?_⟩
          · simp (disch := first | decide | omega | (simp only [nx]; first | done | omega)) only [go_sem, hH1]
          · simp (disch := first | decide | omega | (simp only [nx]; first | done | omega)) only [go_sem, ws]
        · have hie : iY = I + 1 := by omega
          subst hie
          have d1 : decide ((0 : Int) ≤ (I : Int) - ((I + 1 : Nat) : Int)) = false := decide_eq_false (by omega)
          have wp : IntKind.i64.wrap ((I : Int) + 1) = ((I + 1 : Nat) : Int) := IntWalk.i64_in _ ⟨by omega, by omega⟩
          (simp (disch := first | decide | omega | (simp only [nx]; first | done | omega)) only [go_sem, q0, q2, q3, q4, q0Y, q4Y, q5Y, q6Y, d1, wp]; (repeat with_reducible refine aI ?_))
          refine ⟨?_, ⟨by show S.next ≤ tnY; omega, fun _ _ h => h⟩⟩
          rw [hok, hor_all]
          rfl
    · have c2 : decide ((i : Int) < 11) = false := decide_eq_false (by omega)
      have e2 : decide ((10 : Int) ≤ (i : Int)) = true := decide_eq_true (by omega)
      (simp (disch := first | decide | omega | (simp only [nx]; first | done | omega)) only [go_sem, q0, q4, c1, c2, e1, e2, hgi, bD_eq]; (repeat with_reducible refine aI ?_))
      refine ⟨?_, (by (repeat' first | assumption | exact St.Sub.refl _ | exact RowOk.sub (by assumption) (by assumption) | refine St.Sub.trans ?_ (RowOk.sub (by assumption) (by assumption)) | refine St.Sub.add ?_ ?_ _ | refine St.Sub.set ?_ ?_ ?_ _ | refine St.Sub.keep ?_ ?_ | refine St.WF.leave ?_ _ | refine St.WF.add ?_ _ | refine St.WF.set ?_ ?_ _ | refine St.WF.grow ?_ _ _ _ | refine St.WF.keep ?_ ?_ | (first | omega | (simp only [RowOk.lo, nx]; first | done | omega))))⟩
      rw [numP_ten (by omega) hh]; rfl
  · have c1 : decide ((i : Int) < (l.length : Int)) = false := decide_eq_false (by omega)
    have e1 : decide ((l.length : Int) ≤ (i : Int)) = true := decide_eq_true (by omega)
    (simp (disch := first | decide | omega | (simp only [nx]; first | done | omega)) only [go_sem, q0, q4, c1, e1]; (repeat with_reducible refine aI ?_))
    refine ⟨?_, (by (repeat' first | assumption | exact St.Sub.refl _ | exact RowOk.sub (by assumption) (by assumption) | refine St.Sub.trans ?_ (RowOk.sub (by assumption) (by assumption)) | refine St.Sub.add ?_ ?_ _ | refine St.Sub.set ?_ ?_ ?_ _ | refine St.Sub.keep ?_ ?_ | refine St.WF.leave ?_ _ | refine St.WF.add ?_ _ | refine St.WF.set ?_ ?_ _ | refine St.WF.grow ?_ _ _ _ | refine St.WF.keep ?_ ?_ | (first | omega | (simp only [RowOk.lo, nx]; first | done | omega))))⟩
    rw [numP_out (by omega) hh]; rfl
end Go.Proofs.YtonncfminojejaaGreatDoor

namespace Go.Proofs.YtonncfminojejaaGreatDoor
open Go.RowKit
abbrev Rst := Nat × Int × Int
def nxt (x : Rst) : Except Int Nat → Rst
  | .ok s => if x.2.1 = 0 then (x.1 + s, x.2) else x
  | .error c => if x.2.1 = 0 then (x.1, c, (x.1 : Int)) else x
def qB (own : Own) (l : List UInt8) (x : Rst) : Ob := .box 60 [.sl own (l.map bD), .v (.int .i64 (x.1 : Int)), .v (.int .i64 x.2.1), .v (.int .i64 x.2.2)]
def byE : List UInt8 → Except Int Nat
  | [] => .error 2
  | _ => .ok 1
def boE : List UInt8 → Except Int Nat
  | [] => .error 2
  | b :: _ => if 1 < b.toNat then .error 2 else .ok 1
def nuE (l : List UInt8) (m : Nat) : Except Int Nat := match numP l with
  | none => .error 2
  | some (n, s) => if m < n then .error 15 else .ok s
def bsE (l : List UInt8) (m : Nat) : Except Int Nat := match numP l with
  | none => .error 2
  | some (n, s) => if m < n then .error 3 else if l.length - s < n then .error 2 else .ok (s + n)
def rwE (l : List UInt8) (m : Nat) : Except Int Nat := if l.length < m then .error 2 else .ok m
def faE (c : Int) : Except Int Nat := if c = 0 then .ok 0 else .error c
def byV (l : List UInt8) (x : Rst) : UInt8 := if x.2.1 = 0 then (l.drop x.1).headD 0 else 0
def boV (l : List UInt8) (x : Rst) : Bool := if x.2.1 = 0 then decide ((l.drop x.1).headD 0 = 1) else false
def nuV (l : List UInt8) (x : Rst) (m : Nat) : Nat := if x.2.1 = 0 then (match numP (l.drop x.1) with
  | none => 0
  | some (n, _) => if m < n then 0 else n) else 0
def bsV (l : List UInt8) (x : Rst) (m : Nat) : List UInt8 := if x.2.1 = 0 then (match numP (l.drop x.1) with
  | none => []
  | some (n, s) => if m < n then [] else if (l.drop x.1).length - s < n then [] else ((l.drop x.1).drop s).take n) else []
def rwV (l : List UInt8) (x : Rst) (m : Nat) : List UInt8 := if x.2.1 = 0 then (if (l.drop x.1).length < m then [] else (l.drop x.1).take m) else []
section
set_option maxRecDepth 200000
set_option maxHeartbeats 8000000
theorem RFr.put (q : Nat) (S : St) (o : Ob) : RFr q S (S.set q o) := ⟨Nat.le_refl _, fun j o' hj e => by rw [set_ne hj, e]⟩
theorem left_q {S : St} {q : Nat} {own : Own} {l : List UInt8} {x : Rst} (hq : S.ob q = some (qB own l x)) (hi : x.1 ≤ l.length) :
    DCalls Tryz.prog 68 [.loc q 0] S fun d T => d = .sl .no ((l.drop x.1).map bD) ∧ T = S := by
  unfold qB at hq
  refine dcalls_inline mixed Tryz.func68 rfl (fun _ _ => by kernel_rfl) (rs := [.tmp 2]) rfl (by kernel_rfl) (fun hS => ?_)
  have hib : (x.1 : Int) ≤ (l.length : Int) := by omega
  have hwd := eq_true (wd_c l)
  have hsl : List.drop x.1 (l.map bD) = (l.drop x.1).map bD := List.map_drop.symm
  (simp (disch := first | decide | omega | (simp only [nx]; first | done | omega)) only [go_sem]; (repeat with_reducible refine aI ?_))
  refine ddraw_mk 10 (by kernel_rfl) ?_
  (simp (disch := first | decide | omega | (simp only [nx]; first | done | omega)) only [go_sem, hq, hib, hwd, take_bD, hsl]; (repeat with_reducible refine aI ?_))
theorem fail_q {S : St} {q : Nat} {own : Own} {l : List UInt8} {x : Rst} (c : Int) (hq : S.ob q = some (qB own l x)) :
    DCalls Tryz.prog 29 [.loc q 0, .v (.int .i64 c)] S fun d T => d = undefD ∧ T.ob q = some (qB own l (nxt x (faE c))) ∧ RFr q S T := by
  obtain ⟨i, e, p⟩ := x
  unfold qB at hq
  refine dcalls_inline mixed Tryz.func29 rfl (fun _ _ => by kernel_rfl) (rs := []) rfl (by kernel_rfl) (fun hS => ?_)
  by_cases he : e = 0
  · subst he
    have b1 : ((0 : Int) == 0) = true := by decide
    by_cases hc : c = 0
    · subst hc
      have b2 : ((0 : Int) != 0) = false := by decide
      (simp (disch := first | decide | omega | (simp only [nx]; first | done | omega)) only [go_sem, hq, b1, b2]; (repeat with_reducible refine aI ?_))
      exact ⟨rfl, RFr.refl _ _⟩
    · have b2 : (c != 0) = true := by simpa using hc
      (simp (disch := first | decide | omega | (simp only [nx]; first | done | omega)) only [go_sem, hq, b1, b2]; (repeat with_reducible refine aI ?_))
      refine ⟨?_, ⟨Nat.le_refl _, fun j o hj e => ?_⟩⟩
      · simp only [faE, if_neg hc, nxt, qB, if_true]
      · rw [set_ne hj, set_ne hj, e]
  · have b1 : (e == 0) = false := by simpa using he
    (simp (disch := first | decide | omega | (simp only [nx]; first | done | omega)) only [go_sem, hq, b1]; (repeat with_reducible refine aI ?_))
    refine ⟨?_, RFr.refl _ _⟩
    unfold faE
    split <;> simp only [nxt, if_neg he, qB]
theorem take_q {S : St} {q : Nat} {own : Own} {l : List UInt8} {x : Rst} {n : Nat} (hq : S.ob q = some (qB own l x)) (hn : x.1 + n ≤ l.length) (hl : l.length ≤ 1048576) :
    DCalls Tryz.prog 69 [.loc q 0, .v (.int .i64 (n : Int))] S fun d T => d = .sl .no (((l.drop x.1).take n).map bD) ∧ T.ob q = some (qB own l (x.1 + n, x.2)) ∧ RFr q S T := by
  obtain ⟨i, e, p⟩ := x
  unfold qB at hq
  refine dcalls_inline mixed Tryz.func69 rfl (fun _ _ => by kernel_rfl) (rs := [.tmp 4]) rfl (by kernel_rfl) (fun hS => ?_)
  have w1 : IntKind.i64.wrap ((i : Int) + (n : Int)) = ((i + n : Nat) : Int) := by rw [IntWalk.i64_in _ ⟨by simp only at hn; omega, by simp only at hn; omega⟩]; push_cast; rfl
  have hle : ((i + n : Nat) : Int) ≤ (l.length : Int) := by simp only at hn; omega
  have hle0 : (i : Int) ≤ ((i + n : Nat) : Int) := by omega
  have hsl : List.drop i (List.take (i + n) (l.map bD)) = ((l.drop i).take n).map bD := by rw [← List.map_take, ← List.map_drop, List.drop_take, Nat.add_sub_cancel_left]
  have hwd := eq_true (wd_c l)
  have heA : elT Tryz.prog 22 = some 5 := by kernel_rfl
  have hzA : szOf Tryz.prog 5 = 1 := by kernel_rfl
  have hbA : bytesOf Tryz.prog 5 = 1 := by kernel_rfl
  (simp (disch := first | decide | omega | (simp only [nx]; first | done | omega)) only [go_sem]; (repeat with_reducible refine aI ?_))
  refine ddraw_mk 18 (by kernel_rfl) ?_
  (simp (disch := first | decide | omega | (simp only [nx]; first | done | omega)) only [go_sem, hq, w1, hle, hle0, hsl, hwd, heA, hzA, hbA]; (repeat with_reducible refine aI ?_))
  exact ⟨⟨wd_c _, by simp only [List.length_take, List.length_drop]; omega, by simp only [List.length_take, List.length_drop]; omega⟩, rfl, RFr.put _ _ _⟩
theorem nil0 : (((0 : Nat) : Int) == 0) = true := rfl
theorem succ0 (n : Nat) : (((n + 1 : Nat) : Int) == 0) = false := by simp; omega
theorem byte_q {S : St} {q : Nat} {own : Own} {l : List UInt8} {x : Rst} (hq : S.ob q = some (qB own l x)) (hi : x.1 ≤ l.length) (hl : l.length ≤ 1048576) :
    DCalls Tryz.prog 28 [.loc q 0] S fun d T => d = bD (byV l x) ∧ T.ob q = some (qB own l (nxt x (byE (l.drop x.1)))) ∧ RFr q S T := by
  obtain ⟨i, c, p⟩ := x
  have hq0 := hq
  unfold qB at hq
  refine dcalls_inline mixed Tryz.func28 rfl (fun _ _ => by kernel_rfl) (rs := [.tmp 2]) rfl (by kernel_rfl) (fun hS => ?_)
  have b1 : ((0 : Int) == 0) = true := by decide
  have b2 : ((0 : Int) != 0) = false := by decide
  have b3 : ((2 : Int) != 0) = true := by decide
  by_cases hc : c = 0
  · subst hc
    (simp (disch := first | decide | omega | (simp only [nx]; first | done | omega)) only [go_sem, hq, b1]; (repeat with_reducible refine aI ?_))
    refine (left_q hq0 hi).mono ?_
    rintro _ T ⟨rfl, rfl⟩
    cases hd : l.drop i with
    | nil =>
      simp only [byV, hd]
      (simp (disch := first | decide | omega | (simp only [nx]; first | done | omega)) only [go_sem, hq, nil0, List.map_nil, List.length_nil]; (repeat with_reducible refine aI ?_))
      refine (fail_q 2 hq0).mono ?_
      rintro _ T1 ⟨rfl, hT, hF⟩
      have hT' : T1.ob q = some (.box 60 [.sl own (l.map bD), .v (.int .i64 (i : Int)), .v (.int .i64 2), .v (.int .i64 (i : Int))]) := hT
      (simp (disch := first | decide | omega | (simp only [nx]; first | done | omega)) only [go_sem, hT', b3]; (repeat with_reducible refine aI ?_))
      (repeat' refine And.intro ?_ ?_) <;> first | exact hF | exact hT | rfl
    | cons b r =>
      have hr := congrArg List.length hd
      rw [List.length_drop, List.length_cons] at hr
      simp only [byV, hd]
      (simp (disch := first | decide | omega | (simp only [nx]; first | done | omega)) only [go_sem, hq, succ0, List.map_cons, List.length_cons, b2]; (repeat with_reducible refine aI ?_))
      refine (take_q (n := 1) hq0 (by simp only at hi ⊢; omega) hl).mono ?_
      rintro _ T1 ⟨rfl, hT, hF⟩
      simp only [hd, List.take_succ_cons, List.take_zero]
      (simp (disch := first | decide | omega | (simp only [nx]; first | done | omega)) only [go_sem, List.map_cons, List.map_nil, List.length_cons, bD]; (repeat with_reducible refine aI ?_))
      (repeat' refine And.intro ?_ ?_) <;> first | exact hF | exact hT | rfl
  · have b4 : (c == 0) = false := by simpa using hc
    have b5 : (c != 0) = true := by simpa using hc
    (simp (disch := first | decide | omega | (simp only [nx]; first | done | omega)) only [go_sem, hq, b4, b5]; (repeat with_reducible refine aI ?_))
    simp only [byV, if_neg hc]
    refine ⟨rfl, ?_, RFr.refl _ _⟩
    unfold byE
    split <;> simp only [nxt, if_neg hc, qB]
theorem numP_pos {l : List UInt8} {n s : Nat} (h : numP l = some (n, s)) : 0 < s := (numGo_bounds l 0 0 (by omega) (by simp) (by omega) n s h).2.1
theorem nuE_no {x : Rst} {e : Except Int Nat} (h : x.2.1 ≠ 0) : nxt x e = x := by
  cases e <;> simp only [nxt, if_neg h]
theorem number_q {S : St} {q : Nat} {own : Own} {l : List UInt8} {x : Rst} {m : Nat} (hq : S.ob q = some (qB own l x)) (hi : x.1 ≤ l.length) (hl : l.length ≤ 1048576) :
    DCalls Tryz.prog 70 [.loc q 0, .v (.int .u64 (m : Int))] S fun d T => d = .v (.int .u64 ((nuV l x m : Nat) : Int)) ∧ T.ob q = some (qB own l (nxt x (nuE (l.drop x.1) m))) ∧ RFr q S T := by
  obtain ⟨i, c, p⟩ := x
  have hq0 := hq
  unfold qB at hq
  refine dcalls_inline mixed Tryz.func70 rfl (fun _ _ => by kernel_rfl) (rs := [.tmp 4]) rfl (by kernel_rfl) (fun hS => ?_)
  have b2 : ((0 : Int) != 0) = false := by decide
  have b3 : ((2 : Int) != 0) = true := by decide
  have b4 : ((15 : Int) != 0) = true := by decide
  have b6 : ((0 : Int) == 0) = true := by decide
  by_cases hc : c = 0
  · subst hc
    (simp (disch := first | decide | omega | (simp only [nx]; first | done | omega)) only [go_sem, hq, b2]; (repeat with_reducible refine aI ?_))
    refine (left_q hq0 hi).mono ?_
    rintro _ T ⟨rfl, rfl⟩
    (simp (disch := first | decide | omega | (simp only [nx]; first | done | omega)) only [go_sem]; (repeat with_reducible refine aI ?_))
    refine DCalls.of_pure (parse_d .no (l.drop i) (by rw [List.length_drop]; omega)) ?_
    cases hN : numP (l.drop i) with
    | none =>
      simp only [nuV, nuE, hN]
      (simp (disch := first | decide | omega | (simp only [nx]; first | done | omega)) only [go_sem, parD, b6]; (repeat with_reducible refine aI ?_))
      refine (fail_q 2 hq0).mono ?_
      rintro _ T1 ⟨rfl, hT, hF⟩
      have hT' : T1.ob q = some (.box 60 [.sl own (l.map bD), .v (.int .i64 (i : Int)), .v (.int .i64 2), .v (.int .i64 (i : Int))]) := hT
      (simp (disch := first | decide | omega | (simp only [nx]; first | done | omega)) only [go_sem, hT', b3]; (repeat with_reducible refine aI ?_))
      (repeat' refine And.intro ?_ ?_) <;> first | exact hF | exact hT | rfl
    | some r =>
      obtain ⟨n, s⟩ := r
      have hs := numP_pos hN
      have hsl := (numP_le hN).1
      rw [List.length_drop] at hsl
      have b7 : ((s : Int) == 0) = false := by simp; omega
      by_cases hm : m < n
      · have b8 : decide ((m : Int) < (n : Int)) = true := decide_eq_true (by omega)
        simp only [nuV, nuE, hN, if_pos hm]
        (simp (disch := first | decide | omega | (simp only [nx]; first | done | omega)) only [go_sem, parD, b7, b8]; (repeat with_reducible refine aI ?_))
        refine (fail_q 15 hq0).mono ?_
        rintro _ T1 ⟨rfl, hT, hF⟩
        have hT' : T1.ob q = some (.box 60 [.sl own (l.map bD), .v (.int .i64 (i : Int)), .v (.int .i64 15), .v (.int .i64 (i : Int))]) := hT
        (simp (disch := first | decide | omega | (simp only [nx]; first | done | omega)) only [go_sem, hT', b4]; (repeat with_reducible refine aI ?_))
        (repeat' refine And.intro ?_ ?_) <;> first | exact hF | exact hT | rfl
      · have b8 : decide ((m : Int) < (n : Int)) = false := decide_eq_false (by omega)
        simp only [nuV, nuE, hN, if_neg hm]
        (simp (disch := first | decide | omega | (simp only [nx]; first | done | omega)) only [go_sem, parD, b7, b8, hq, b2]; (repeat with_reducible refine aI ?_))
        refine (take_q (n := s) hq0 (by simp only at hi ⊢; omega) hl).mono ?_
        rintro _ T1 ⟨rfl, hT, hF⟩
        (simp (disch := first | decide | omega | (simp only [nx]; first | done | omega)) only [go_sem]; (repeat with_reducible refine aI ?_))
        (repeat' refine And.intro ?_ ?_) <;> first | exact hF | exact hT | rfl
  · have b5 : (c != 0) = true := by simpa using hc
    (simp (disch := first | decide | omega | (simp only [nx]; first | done | omega)) only [go_sem, hq, b5]; (repeat with_reducible refine aI ?_))
    simp only [nuV, if_neg hc]
    refine ⟨rfl, ?_, RFr.refl _ _⟩
    rw [nuE_no (x := (i, c, p)) hc]
    rfl
theorem bool_q {S : St} {q : Nat} {own : Own} {l : List UInt8} {x : Rst} (hq : S.ob q = some (qB own l x)) (hi : x.1 ≤ l.length) (hl : l.length ≤ 1048576) :
    DCalls Tryz.prog 30 [.loc q 0] S fun d T => d = .v (.bool (boV l x)) ∧ T.ob q = some (qB own l (nxt x (boE (l.drop x.1)))) ∧ RFr q S T := by
  obtain ⟨i, c, p⟩ := x
  have hq0 := hq
  unfold qB at hq
  refine dcalls_inline mixed Tryz.func30 rfl (fun _ _ => by kernel_rfl) (rs := [.tmp 2]) rfl (by kernel_rfl) (fun hS => ?_)
  have b1 : ((0 : Int) == 0) = true := by decide
  have b2 : ((2 : Int) == 0) = false := by decide
  by_cases hc : c = 0
  · subst hc
    (simp (disch := first | decide | omega | (simp only [nx]; first | done | omega)) only [go_sem, hq, b1]; (repeat with_reducible refine aI ?_))
    refine (left_q hq0 hi).mono ?_
    rintro _ T ⟨rfl, rfl⟩
    cases hd : l.drop i with
    | nil =>
      simp only [boV, hd]
      (simp (disch := first | decide | omega | (simp only [nx]; first | done | omega)) only [go_sem, hq, nil0, List.map_nil, List.length_nil]; (repeat with_reducible refine aI ?_))
      refine (fail_q 2 hq0).mono ?_
      rintro _ T1 ⟨rfl, hT, hF⟩
      have hT' : T1.ob q = some (.box 60 [.sl own (l.map bD), .v (.int .i64 (i : Int)), .v (.int .i64 2), .v (.int .i64 (i : Int))]) := hT
      (simp (disch := first | decide | omega | (simp only [nx]; first | done | omega)) only [go_sem, hT', b2]; (repeat with_reducible refine aI ?_))
      (repeat' refine And.intro ?_ ?_) <;> first | exact hF | exact hT | rfl
    | cons b r =>
      have hr := congrArg List.length hd
      rw [List.length_drop, List.length_cons] at hr
      simp only [boV, hd]
      (simp (disch := first | decide | omega | (simp only [nx]; first | done | omega)) only [go_sem, hq, succ0, List.map_cons, List.length_cons]; (repeat with_reducible refine aI ?_))
      refine (left_q hq0 hi).mono ?_
      rintro _ T ⟨rfl, rfl⟩
      simp only [hd]
      by_cases hb : 1 < b.toNat
      · have b3 : decide ((1 : Int) < (b.toNat : Int)) = true := decide_eq_true (by omega)
        have hbe : boE (b :: r) = .error 2 := if_pos hb
        rw [hbe]
        (simp (disch := first | decide | omega | (simp only [nx]; first | done | omega)) only [go_sem, hq, succ0, List.map_cons, List.length_cons, bD, b3]; (repeat with_reducible refine aI ?_))
        refine (fail_q 2 hq0).mono ?_
        rintro _ T1 ⟨rfl, hT, hF⟩
        have hT' : T1.ob q = some (.box 60 [.sl own (l.map bD), .v (.int .i64 (i : Int)), .v (.int .i64 2), .v (.int .i64 (i : Int))]) := hT
        (simp (disch := first | decide | omega | (simp only [nx]; first | done | omega)) only [go_sem, hT', b2]; (repeat with_reducible refine aI ?_))
        have : b ≠ 1 := by rintro rfl; exact absurd hb (by decide)
        (repeat' refine And.intro ?_ ?_) <;> first | exact hF | rfl | simp [this]
      · have b3 : decide ((1 : Int) < (b.toNat : Int)) = false := decide_eq_false (by omega)
        have hbe : boE (b :: r) = .ok 1 := if_neg hb
        rw [hbe]
        have b4 : ((b.toNat : Int) == 1) = decide (b = 1) := by
          by_cases h1 : b = 1
          · subst h1; rfl
          · have : b.toNat ≠ 1 := fun h => h1 (UInt8.toNat_inj.1 h)
            rw [decide_eq_false h1]
            simp; omega
        (simp (disch := first | decide | omega | (simp only [nx]; first | done | omega)) only [go_sem, hq, succ0, List.map_cons, List.length_cons, bD, b3, b1]; (repeat with_reducible refine aI ?_))
        refine (take_q (n := 1) hq0 (by simp only at hi ⊢; omega) hl).mono ?_
        rintro _ T1 ⟨rfl, hT, hF⟩
        simp only [hd, List.take_succ_cons, List.take_zero]
        (simp (disch := first | decide | omega | (simp only [nx]; first | done | omega)) only [go_sem, List.map_cons, List.map_nil, List.length_cons, bD, b4]; (repeat with_reducible refine aI ?_))
        (repeat' refine And.intro ?_ ?_) <;> first | exact hF | exact hT | rfl | simp
  · have b4 : (c == 0) = false := by simpa using hc
    (simp (disch := first | decide | omega | (simp only [nx]; first | done | omega)) only [go_sem, hq, b4]; (repeat with_reducible refine aI ?_))
    simp only [boV, if_neg hc]
    refine ⟨trivial, ?_, RFr.refl _ _⟩
    rw [nuE_no (x := (i, c, p)) hc]
    rfl
theorem bytes_q {S : St} {q : Nat} {own : Own} {l : List UInt8} {x : Rst} {mx : Int} (hm : IsI64 mx) (hq : S.ob q = some (qB own l x)) (hi : x.1 ≤ l.length) (hl : l.length ≤ 1048576) :
    DCalls Tryz.prog 33 [.loc q 0, .v (.int .i64 mx)] S fun d T => (∃ o, d = .sl o ((bsV l x mx.toNat).map bD)) ∧ T.ob q = some (qB own l (nxt x (bsE (l.drop x.1) mx.toNat))) ∧ RFr q S T := by
  obtain ⟨i, c, p⟩ := x
  have hq0 := hq
  unfold qB at hq
  unfold IsI64 at hm
  refine dcalls_inline mixed Tryz.func33 rfl (fun _ _ => by kernel_rfl) (rs := [.tmp 4]) rfl (by kernel_rfl) (fun hS => ?_)
  have b2 : ((0 : Int) != 0) = false := by decide
  have b6 : ((0 : Int) == 0) = true := by decide
  have wm : IntKind.u64.wrap (mx.toNat : Int) = (mx.toNat : Int) := wrap_u64 _ (by unfold IsU64; omega)
  have key : ∀ (M : Int), M = (mx.toNat : Int) → IntKind.u64.wrap M = (mx.toNat : Int) := fun M h => by rw [h]; exact wm
  by_cases hc : c = 0
  · subst hc
    (simp (disch := first | decide | omega | (simp only [nx]; first | done | omega)) only [go_sem, hq, b2]; (repeat with_reducible refine aI ?_))
    refine (left_q hq0 hi).mono ?_
    rintro _ T ⟨rfl, rfl⟩
    (simp (disch := first | decide | omega | (simp only [nx]; first | done | omega)) only [go_sem]; (repeat with_reducible refine aI ?_))
    refine DCalls.of_pure (parse_d .no (l.drop i) (by rw [List.length_drop]; omega)) ?_
    by_cases hneg : mx < 0
    · have n1 : decide (mx < 0) = true := decide_eq_true hneg
      have h0 : mx.toNat = 0 := by omega
      have wM : IntKind.u64.wrap 0 = (mx.toNat : Int) := by rw [h0]; decide
      cases hN : numP (l.drop i) with
      | none =>
        simp only [bsV, bsE, hN, if_true]
        (simp (disch := first | decide | omega | (simp only [nx]; first | done | omega)) only [go_sem, parD, b6, n1]; (repeat with_reducible refine aI ?_))
        refine (fail_q 2 hq0).mono ?_
        rintro _ T1 ⟨rfl, hT, hF⟩
        (simp (disch := first | decide | omega | (simp only [nx]; first | done | omega)) only [go_sem]; (repeat with_reducible refine aI ?_))
        (repeat' refine And.intro ?_ ?_) <;> first | exact hF | exact hT | exact ⟨.full, rfl⟩
      | some r =>
        obtain ⟨n, s⟩ := r
        have hs := numP_pos hN
        have hsl := (numP_le hN).1
        have hn := (numP_le hN).2
        rw [List.length_drop] at hsl
        have b7 : ((s : Int) == 0) = false := by simp; omega
        by_cases hmn : mx.toNat < n
        · have b8 : decide ((mx.toNat : Int) < (n : Int)) = true := decide_eq_true (by omega)
          simp only [bsV, bsE, hN, if_pos hmn, if_true]
          (simp (disch := first | decide | omega | (simp only [nx]; first | done | omega)) only [go_sem, parD, b7, n1, wM, b8]; (repeat with_reducible refine aI ?_))
          refine (fail_q 3 hq0).mono ?_
          rintro _ T1 ⟨rfl, hT, hF⟩
          (simp (disch := first | decide | omega | (simp only [nx]; first | done | omega)) only [go_sem]; (repeat with_reducible refine aI ?_))
          (repeat' refine And.intro ?_ ?_) <;> first | exact hF | exact hT | exact ⟨.full, rfl⟩
        · have b8 : decide ((mx.toNat : Int) < (n : Int)) = false := decide_eq_false (by omega)
          have wl : IntKind.i64.wrap (((l.drop i).length : Int) - (s : Int)) = (((l.drop i).length - s : Nat) : Int) := by rw [IntWalk.i64_in _ ⟨by rw [List.length_drop]; omega, by rw [List.length_drop]; omega⟩]; rw [List.length_drop]; omega
          have wu : IntKind.u64.wrap (((l.drop i).length - s : Nat) : Int) = (((l.drop i).length - s : Nat) : Int) := wrap_u64 _ (by unfold IsU64; rw [List.length_drop]; omega)
          simp only [bsV, bsE, hN, if_neg hmn, if_true]
          (simp (disch := first | decide | omega | (simp only [nx]; first | done | omega)) only [go_sem, parD, b7, n1, wM, b8]; (repeat with_reducible refine aI ?_))
          refine (left_q hq0 hi).mono ?_
          rintro _ T ⟨rfl, rfl⟩
          by_cases hln : (l.drop i).length - s < n
          · have b9 : decide ((((l.drop i).length - s : Nat) : Int) < (n : Int)) = true := decide_eq_true (by omega)
            simp only [if_pos hln]
            (simp (disch := first | decide | omega | (simp only [nx]; first | done | omega)) only [go_sem, wl, wu, b9]; (repeat with_reducible refine aI ?_))
            refine (fail_q 2 hq0).mono ?_
            rintro _ T1 ⟨rfl, hT, hF⟩
            (simp (disch := first | decide | omega | (simp only [nx]; first | done | omega)) only [go_sem]; (repeat with_reducible refine aI ?_))
            (repeat' refine And.intro ?_ ?_) <;> first | exact hF | exact hT | exact ⟨.full, rfl⟩
          · have b9 : decide ((((l.drop i).length - s : Nat) : Int) < (n : Int)) = false := decide_eq_false (by omega)
            have wn : IntKind.i64.wrap (n : Int) = (n : Int) := IntWalk.i64_in _ ⟨by omega, by rw [List.length_drop] at hln; omega⟩
            simp only [if_neg hln]
            rw [List.length_drop] at hln
            (simp (disch := first | decide | omega | (simp only [nx]; first | done | omega)) only [go_sem, wl, wu, b9]; (repeat with_reducible refine aI ?_))
            refine (take_q (n := s) hq0 (by simp only at hi ⊢; omega) hl).mono ?_
            rintro _ T1 ⟨rfl, hT, hF⟩
            (simp (disch := first | decide | omega | (simp only [nx]; first | done | omega)) only [go_sem, wn]; (repeat with_reducible refine aI ?_))
            refine (take_q (x := (i + s, 0, p)) (n := n) hT (by simp only at hi ⊢; omega) hl).mono ?_
            rintro _ T2 ⟨rfl, hT2, hF2⟩
            (simp (disch := first | decide | omega | (simp only [nx]; first | done | omega)) only [go_sem]; (repeat with_reducible refine aI ?_))
            refine ⟨⟨.no, by rw [List.drop_drop]⟩, ?_, hF.trans hF2⟩
            rw [hT2]
            simp only [nxt, if_true, Nat.add_assoc]
    · have n1 : decide (mx < 0) = false := decide_eq_false hneg
      have wM : IntKind.u64.wrap mx = (mx.toNat : Int) := key mx (by omega)
      cases hN : numP (l.drop i) with
      | none =>
        simp only [bsV, bsE, hN, if_true]
        (simp (disch := first | decide | omega | (simp only [nx]; first | done | omega)) only [go_sem, parD, b6, n1]; (repeat with_reducible refine aI ?_))
        refine (fail_q 2 hq0).mono ?_
        rintro _ T1 ⟨rfl, hT, hF⟩
        (simp (disch := first | decide | omega | (simp only [nx]; first | done | omega)) only [go_sem]; (repeat with_reducible refine aI ?_))
        (repeat' refine And.intro ?_ ?_) <;> first | exact hF | exact hT | exact ⟨.full, rfl⟩
      | some r =>
        obtain ⟨n, s⟩ := r
        have hs := numP_pos hN
        have hsl := (numP_le hN).1
        have hn := (numP_le hN).2
        rw [List.length_drop] at hsl
        have b7 : ((s : Int) == 0) = false := by simp; omega
        by_cases hmn : mx.toNat < n
        · have b8 : decide ((mx.toNat : Int) < (n : Int)) = true := decide_eq_true (by omega)
          simp only [bsV, bsE, hN, if_pos hmn, if_true]
          (simp (disch := first | decide | omega | (simp only [nx]; first | done | omega)) only [go_sem, parD, b7, n1, wM, b8]; (repeat with_reducible refine aI ?_))
          refine (fail_q 3 hq0).mono ?_
          rintro _ T1 ⟨rfl, hT, hF⟩
          (simp (disch := first | decide | omega | (simp only [nx]; first | done | omega)) only [go_sem]; (repeat with_reducible refine aI ?_))
          (repeat' refine And.intro ?_ ?_) <;> first | exact hF | exact hT | exact ⟨.full, rfl⟩
        · have b8 : decide ((mx.toNat : Int) < (n : Int)) = false := decide_eq_false (by omega)
          have wl : IntKind.i64.wrap (((l.drop i).length : Int) - (s : Int)) = (((l.drop i).length - s : Nat) : Int) := by rw [IntWalk.i64_in _ ⟨by rw [List.length_drop]; omega, by rw [List.length_drop]; omega⟩]; rw [List.length_drop]; omega
          have wu : IntKind.u64.wrap (((l.drop i).length - s : Nat) : Int) = (((l.drop i).length - s : Nat) : Int) := wrap_u64 _ (by unfold IsU64; rw [List.length_drop]; omega)
          simp only [bsV, bsE, hN, if_neg hmn, if_true]
          (simp (disch := first | decide | omega | (simp only [nx]; first | done | omega)) only [go_sem, parD, b7, n1, wM, b8]; (repeat with_reducible refine aI ?_))
          refine (left_q hq0 hi).mono ?_
          rintro _ T ⟨rfl, rfl⟩
          by_cases hln : (l.drop i).length - s < n
          · have b9 : decide ((((l.drop i).length - s : Nat) : Int) < (n : Int)) = true := decide_eq_true (by omega)
            simp only [if_pos hln]
            (simp (disch := first | decide | omega | (simp only [nx]; first | done | omega)) only [go_sem, wl, wu, b9]; (repeat with_reducible refine aI ?_))
            refine (fail_q 2 hq0).mono ?_
            rintro _ T1 ⟨rfl, hT, hF⟩
            (simp (disch := first | decide | omega | (simp only [nx]; first | done | omega)) only [go_sem]; (repeat with_reducible refine aI ?_))
            (repeat' refine And.intro ?_ ?_) <;> first | exact hF | exact hT | exact ⟨.full, rfl⟩
          · have b9 : decide ((((l.drop i).length - s : Nat) : Int) < (n : Int)) = false := decide_eq_false (by omega)
            have wn : IntKind.i64.wrap (n : Int) = (n : Int) := IntWalk.i64_in _ ⟨by omega, by rw [List.length_drop] at hln; omega⟩
            simp only [if_neg hln]
            rw [List.length_drop] at hln
            (simp (disch := first | decide | omega | (simp only [nx]; first | done | omega)) only [go_sem, wl, wu, b9]; (repeat with_reducible refine aI ?_))
            refine (take_q (n := s) hq0 (by simp only at hi ⊢; omega) hl).mono ?_
            rintro _ T1 ⟨rfl, hT, hF⟩
            (simp (disch := first | decide | omega | (simp only [nx]; first | done | omega)) only [go_sem, wn]; (repeat with_reducible refine aI ?_))
            refine (take_q (x := (i + s, 0, p)) (n := n) hT (by simp only at hi ⊢; omega) hl).mono ?_
            rintro _ T2 ⟨rfl, hT2, hF2⟩
            (simp (disch := first | decide | omega | (simp only [nx]; first | done | omega)) only [go_sem]; (repeat with_reducible refine aI ?_))
            refine ⟨⟨.no, by rw [List.drop_drop]⟩, ?_, hF.trans hF2⟩
            rw [hT2]
            simp only [nxt, if_true, Nat.add_assoc]
  · have b5 : (c != 0) = true := by simpa using hc
    (simp (disch := first | decide | omega | (simp only [nx]; first | done | omega)) only [go_sem, hq, b5]; (repeat with_reducible refine aI ?_))
    simp only [bsV, if_neg hc]
    refine ⟨⟨.full, rfl⟩, ?_, RFr.refl _ _⟩
    rw [nuE_no (x := (i, c, p)) hc]
    rfl
theorem raw_q {S : St} {q : Nat} {own : Own} {l : List UInt8} {x : Rst} {mx : Int} (hm : IsI64 mx) (hq : S.ob q = some (qB own l x)) (hi : x.1 ≤ l.length) (hl : l.length ≤ 1048576) :
    DCalls Tryz.prog 31 [.loc q 0, .v (.int .i64 mx)] S fun d T => (∃ o, d = .sl o ((rwV l x mx.toNat).map bD)) ∧ T.ob q = some (qB own l (nxt x (rwE (l.drop x.1) mx.toNat))) ∧ RFr q S T := by
  obtain ⟨i, c, p⟩ := x
  have hq0 := hq
  unfold qB at hq
  unfold IsI64 at hm
  refine dcalls_inline mixed Tryz.func31 rfl (fun _ _ => by kernel_rfl) (rs := [.tmp 4]) rfl (by kernel_rfl) (fun hS => ?_)
  have b2 : ((0 : Int) != 0) = false := by decide
  have b3 : ((2 : Int) != 0) = true := by decide
  have b6 : ((0 : Int) == 0) = true := by decide
  by_cases hneg : mx < 0
  · have n1 : decide (mx < 0) = true := decide_eq_true hneg
    by_cases hc : c = 0
    · subst hc
      (simp (disch := first | decide | omega | (simp only [nx]; first | done | omega)) only [go_sem, hq, n1, b6]; (repeat with_reducible refine aI ?_))
      refine (left_q hq0 hi).mono ?_
      rintro _ T ⟨rfl, rfl⟩
      by_cases hln : (l.drop i).length < mx.toNat
      · have b9 : decide (((l.drop i).length : Int) < 0) = true := decide_eq_true (by omega)
        simp only [rwV, rwE, if_pos hln, if_true]
        (simp (disch := first | decide | omega | (simp only [nx]; first | done | omega)) only [go_sem, hq, b9]; (repeat with_reducible refine aI ?_))
        refine (fail_q 2 hq0).mono ?_
        rintro _ T1 ⟨rfl, hT, hF⟩
        have hT' : T1.ob q = some (.box 60 [.sl own (l.map bD), .v (.int .i64 (i : Int)), .v (.int .i64 2), .v (.int .i64 (i : Int))]) := hT
        (simp (disch := first | decide | omega | (simp only [nx]; first | done | omega)) only [go_sem, hT', b3]; (repeat with_reducible refine aI ?_))
        (repeat' refine And.intro ?_ ?_) <;> first | exact hF | exact ⟨.full, rfl⟩ | rfl
      · have b9 : decide (((l.drop i).length : Int) < 0) = false := decide_eq_false (by omega)
        simp only [rwV, rwE, if_neg hln, if_true]
        rw [List.length_drop] at hln
        (simp (disch := first | decide | omega | (simp only [nx]; first | done | omega)) only [go_sem, hq, b9, b2]; (repeat with_reducible refine aI ?_))
        have ht := take_q (n := mx.toNat) hq0 (by simp only at hi ⊢; omega) hl
        rw [show ((mx.toNat : Nat) : Int) = 0 by omega] at ht
        refine ht.mono ?_
        rintro _ T1 ⟨rfl, hT, hF⟩
        (simp (disch := first | decide | omega | (simp only [nx]; first | done | omega)) only [go_sem]; (repeat with_reducible refine aI ?_))
        exact ⟨⟨.no, rfl⟩, hT, hF⟩
    · have b4 : (c == 0) = false := by simpa using hc
      have b5 : (c != 0) = true := by simpa using hc
      (simp (disch := first | decide | omega | (simp only [nx]; first | done | omega)) only [go_sem, hq, n1, b4, b5]; (repeat with_reducible refine aI ?_))
      simp only [rwV, if_neg hc]
      refine ⟨⟨.full, rfl⟩, ?_, RFr.refl _ _⟩
      rw [nuE_no (x := (i, c, p)) hc]
      rfl
  · have n1 : decide (mx < 0) = false := decide_eq_false hneg
    by_cases hc : c = 0
    · subst hc
      (simp (disch := first | decide | omega | (simp only [nx]; first | done | omega)) only [go_sem, hq, n1, b6]; (repeat with_reducible refine aI ?_))
      refine (left_q hq0 hi).mono ?_
      rintro _ T ⟨rfl, rfl⟩
      by_cases hln : (l.drop i).length < mx.toNat
      · have b9 : decide (((l.drop i).length : Int) < mx) = true := decide_eq_true (by omega)
        simp only [rwV, rwE, if_pos hln, if_true]
        (simp (disch := first | decide | omega | (simp only [nx]; first | done | omega)) only [go_sem, hq, b9]; (repeat with_reducible refine aI ?_))
        refine (fail_q 2 hq0).mono ?_
        rintro _ T1 ⟨rfl, hT, hF⟩
        have hT' : T1.ob q = some (.box 60 [.sl own (l.map bD), .v (.int .i64 (i : Int)), .v (.int .i64 2), .v (.int .i64 (i : Int))]) := hT
        (simp (disch := first | decide | omega | (simp only [nx]; first | done | omega)) only [go_sem, hT', b3]; (repeat with_reducible refine aI ?_))
        (repeat' refine And.intro ?_ ?_) <;> first | exact hF | exact ⟨.full, rfl⟩ | rfl
      · have b9 : decide (((l.drop i).length : Int) < mx) = false := decide_eq_false (by omega)
        simp only [rwV, rwE, if_neg hln, if_true]
        rw [List.length_drop] at hln
        (simp (disch := first | decide | omega | (simp only [nx]; first | done | omega)) only [go_sem, hq, b9, b2]; (repeat with_reducible refine aI ?_))
        have ht := take_q (n := mx.toNat) hq0 (by simp only at hi ⊢; omega) hl
        rw [show ((mx.toNat : Nat) : Int) = mx by omega] at ht
        refine ht.mono ?_
        rintro _ T1 ⟨rfl, hT, hF⟩
        (simp (disch := first | decide | omega | (simp only [nx]; first | done | omega)) only [go_sem]; (repeat with_reducible refine aI ?_))
        exact ⟨⟨.no, rfl⟩, hT, hF⟩
    · have b4 : (c == 0) = false := by simpa using hc
      have b5 : (c != 0) = true := by simpa using hc
      (simp (disch := first | decide | omega | (simp only [nx]; first | done | omega)) only [go_sem, hq, n1, b4, b5]; (repeat with_reducible refine aI ?_))
      simp only [rwV, if_neg hc]
      refine ⟨⟨.full, rfl⟩, ?_, RFr.refl _ _⟩
      rw [nuE_no (x := (i, c, p)) hc]
      rfl
theorem end_q {S : St} {q : Nat} {own : Own} {l : List UInt8} {x : Rst} (hq : S.ob q = some (qB own l x)) (hi : x.1 ≤ l.length) :
    DCalls Tryz.prog 36 [.loc q 0] S fun d T => d = .tup [.v (.int .i64 (if x.2.1 = 0 ∧ x.1 < l.length then 2 else x.2.1)), .v (.int .i64 (if x.2.1 = 0 ∧ x.1 < l.length then (x.1 : Int) else x.2.2))] ∧ T = S := by
  obtain ⟨i, c, p⟩ := x
  have hq0 := hq
  unfold qB at hq
  have hi' : i ≤ l.length := hi
  refine dcalls_inline mixed Tryz.func36 rfl (fun _ _ => by kernel_rfl) (rs := [.tmp 2, .tmp 3]) rfl (by kernel_rfl) (fun hS => ?_)
  by_cases hc : c = 0
  · subst hc
    have b1 : ((0 : Int) == 0) = true := by decide
    (simp (disch := first | decide | omega | (simp only [nx]; first | done | omega)) only [go_sem, hq, b1]; (repeat with_reducible refine aI ?_))
    refine (left_q hq0 hi).mono ?_
    rintro _ T ⟨rfl, rfl⟩
    by_cases hl : i < l.length
    · have b2 : decide ((0 : Int) < ((l.drop i).length : Int)) = true := decide_eq_true (by rw [List.length_drop]; omega)
      rw [if_pos hl, if_pos hl]
      (simp (disch := first | decide | omega | (simp only [nx]; first | done | omega)) only [go_sem, hq, b2]; (repeat with_reducible refine aI ?_))
      refine ddraw_mk 6 (by kernel_rfl) ?_
      (simp (disch := first | decide | omega | (simp only [nx]; first | done | omega)) only [go_sem, hq]; (repeat with_reducible refine aI ?_))
    · have b2 : decide ((0 : Int) < ((l.drop i).length : Int)) = false := decide_eq_false (by rw [List.length_drop]; omega)
      rw [if_neg hl, if_neg hl]
      (simp (disch := first | decide | omega | (simp only [nx]; first | done | omega)) only [go_sem, hq, b2]; (repeat with_reducible refine aI ?_))
      refine ddraw_mk 10 (by kernel_rfl) ?_
      (simp (disch := first | decide | omega | (simp only [nx]; first | done | omega)) only [go_sem, hq]; (repeat with_reducible refine aI ?_))
  · have b1 : (c == 0) = false := by simpa using hc
    rw [if_neg fun h => hc h.1, if_neg fun h => hc h.1]
    (simp (disch := first | decide | omega | (simp only [nx]; first | done | omega)) only [go_sem, hq, b1]; (repeat with_reducible refine aI ?_))
    refine ddraw_mk 10 (by kernel_rfl) ?_
    (simp (disch := first | decide | omega | (simp only [nx]; first | done | omega)) only [go_sem, hq]; (repeat with_reducible refine aI ?_))
end
end Go.Proofs.YtonncfminojejaaGreatDoor

namespace Go.Proofs.YtonncfminojejaaGreatDoor
open Go.RowKit
section
variable {S : St}
def firstD : List D → D
  | [] => .v .nilIface
  | .ifc t u :: _ => .ifc t u
  | _ :: l => firstD l
end
end Go.Proofs.YtonncfminojejaaGreatDoor

namespace Go.Proofs.YtonncfminojejaaGreatDoor
open Go.RowKit
section
variable {P : Program} {f : Fm} {K : D → St → Prop}
@[go_sem] theorem inl_ret_tc (u x : Tmp) (t : TypeId) (S' : St) : DQ.inl P [.tmp u, .cell x t] K .ret f S' = dcellR P S' t (f x) (fun r => K (.tup [f u, r]) S') := by
  show (True ∧ onVal (dres P f S' (.cell x t)) fun d2 => K (one [f u, d2]) S') = _
  rw [true_and]
  exact onVal_cell x t _
@[go_sem] theorem inl_normal_tc (u x : Tmp) (t : TypeId) (S' : St) : DQ.inl P [.tmp u, .cell x t] K .normal f S' = dcellR P S' t (f x) (fun r => K (.tup [f u, r]) S') := by
  show (True ∧ onVal (dres P f S' (.cell x t)) fun d2 => K (one [f u, d2]) S') = _
  rw [true_and]
  exact onVal_cell x t _
end
end Go.Proofs.YtonncfminojejaaGreatDoor

namespace Go.Proofs.YtonncfminojejaaGreatDoor
open Go.RowKit
section
variable {S : St} {ps : List Int} {n : Int} {t : TypeId} {u : D}
theorem code01_at (hc : Chain S ps n (.ifc t u)) (hl : ps.length < 1000000) : DAt Tryz.prog 17 [.ifc t u] S (.v (.int .i64 n)) := by
  refine dat_of_dwp (d := .v (.int .i64 n)) mixed Tryz.func17 rfl (fun _ _ => by kernel_rfl) (rs := [.tmp 2]) rfl (by kernel_rfl) trivial (fun hS => ?_)
  (simp (disch := first | decide | omega | (simp only [nx]; first | done | omega)) only [go_sem]; (repeat with_reducible refine aI ?_))
  refine asEr (x0 := .v (.int .i64 0)) (hc.mono fun k cs hq => ?_) ?_ hl fun T t1 t2 t3 t4 => ?_
  · have hkl := hS.lt hq
    show (if k = S.next then _ else _) = _
    rw [if_neg (by omega), hq]
  · show (if S.next = S.next then _ else _) = _
    rw [if_pos rfl]
  (simp (disch := first | decide | omega | (simp only [nx]; first | done | omega)) only [go_sem, t4]; (repeat with_reducible refine aI ?_))
  have hsub : S.Sub T := ⟨by have : S.next + 1 ≤ T.next := t1; omega, fun j o ho => t3 j o (by have := hS.lt ho; omega) (by have := hS.lt ho; show (if j = S.next then _ else _) = _; rw [if_neg (by omega), ho])⟩
  refine ⟨?_, (by (repeat' first | assumption | exact St.Sub.refl _ | exact RowOk.sub (by assumption) (by assumption) | refine St.Sub.trans ?_ (RowOk.sub (by assumption) (by assumption)) | refine St.Sub.add ?_ ?_ _ | refine St.Sub.set ?_ ?_ ?_ _ | refine St.Sub.keep ?_ ?_ | refine St.WF.leave ?_ _ | refine St.WF.add ?_ _ | refine St.WF.set ?_ ?_ _ | refine St.WF.grow ?_ _ _ _ | refine St.WF.keep ?_ ?_ | (first | omega | (simp only [RowOk.lo, nx]; first | done | omega))))⟩
  rfl
end
end Go.Proofs.YtonncfminojejaaGreatDoor

namespace Go.Proofs.YtonncfminojejaaGreatDoor
open Go.RowKit
def ErrAt (k : Nat) (c p : Int) (T : St) (e : D) : Prop := (c = 0 ∧ e = .v .nilIface) ∨ (c ≠ 0 ∧ ∃ b, b ≠ k ∧ e = atD b ∧ T.ob b = some (.box 104 [.v (.int .i64 p), erD c]))
def EAt (k : Nat) (l : List UInt8) (x : Rst) (T : St) : Prop := ∃ own e, T.ob k = some (.box 91 [.sl own (l.map bD), .v (.int .i64 (x.1 : Int)), e]) ∧ ErrAt k x.2.1 x.2.2 T e
theorem ErrAt.keep {k : Nat} {c p : Int} {S T : St} {e : D} (h : ErrAt k c p S e) (hb : ∀ j o, j ≠ k → S.ob j = some o → T.ob j = some o) : ErrAt k c p T e := by
  rcases h with h | ⟨h1, b, h2, h3, h4⟩
  · exact .inl h
  · exact .inr ⟨h1, b, h2, h3, hb b _ h2 h4⟩
theorem EAt.keep {k : Nat} {l : List UInt8} {x : Rst} {S T : St} (h : EAt k l x S) (hb : ∀ j o, S.ob j = some o → T.ob j = some o) : EAt k l x T := by
  obtain ⟨own, e, h1, h2⟩ := h
  exact ⟨own, e, hb _ _ h1, h2.keep fun j o _ => hb j o⟩
def exD : Except Int Nat → D
  | .ok s => .tup [.v (.int .i64 (s : Int)), .v (.int .i64 0)]
  | .error c => .tup [.v (.int .i64 0), .v (.int .i64 c)]
section
set_option maxRecDepth 200000
set_option maxHeartbeats 8000000
theorem fail_x {S : St} {k : Nat} {l : List UInt8} {x : Rst} (c : Int) (hr : EAt k l x S) :
    DCalls Tryz.prog 26 [.loc k 0, .v (.int .i64 c)] S fun d T => d = undefD ∧ EAt k l (nxt x (faE c)) T ∧ RFr k S T := by
  obtain ⟨i, e, p⟩ := x
  obtain ⟨own, er, h1, h2⟩ := hr
  refine dcalls_inline mixed Tryz.func26 rfl (fun _ _ => by kernel_rfl) (rs := []) rfl (by kernel_rfl) (fun hS => ?_)
  have hk := hS.lt h1
  rcases h2 with ⟨h2, rfl⟩ | ⟨h2, b, h3, rfl, h4⟩
  · simp only at h2
    subst h2
    by_cases hc : c = 0
    · subst hc
      have b2 : ((0 : Int) != 0) = false := by decide
      (simp (disch := first | decide | omega | (simp only [nx]; first | done | omega)) only [go_sem, h1, b2]; (repeat with_reducible refine aI ?_))
      exact ⟨⟨own, _, h1, .inl ⟨rfl, rfl⟩⟩, RFr.refl _ _⟩
    · have b2 : (c != 0) = true := by simpa using hc
      (simp (disch := first | decide | omega | (simp only [nx]; first | done | omega)) only [go_sem, h1, b2]; (repeat with_reducible refine aI ?_))
      refine wrap_at ?_
      have h5 : (S.add (.box 104 [.v (.int .i64 (i : Int)), .ifc 56 (.v (.int .i64 c))])).ob k = some (.box 91 [.sl own (l.map bD), .v (.int .i64 (i : Int)), .v .nilIface]) := by rw [add_ne hk, h1]
      (simp (disch := first | decide | omega | (simp only [nx]; first | done | omega)) only [go_sem, h5]; (repeat with_reducible refine aI ?_))
      refine ⟨?_, ⟨Nat.le_succ _, fun j o hj e => ?_⟩⟩
      · simp only [faE, if_neg hc, nxt, if_true]
        refine ⟨own, atD S.next, set_eq, .inr ⟨hc, S.next, by omega, rfl, ?_⟩⟩
        rw [set_ne (by omega), add_eq]
      · have := hS.lt e
        rw [set_ne hj, add_ne this, e]
  · simp only at h2
    (simp (disch := first | decide | omega | (simp only [nx]; first | done | omega)) only [go_sem, h1]; (repeat with_reducible refine aI ?_))
    rw [nuE_no (x := (i, e, p)) h2]
    exact ⟨⟨own, _, h1, .inr ⟨h2, b, h3, rfl, h4⟩⟩, RFr.refl _ _⟩
theorem EAt.nil {k : Nat} {l : List UInt8} {x : Rst} {S : St} (h : EAt k l x S) (hc : x.2.1 = 0) : ∃ own, S.ob k = some (.box 91 [.sl own (l.map bD), .v (.int .i64 (x.1 : Int)), .v .nilIface]) := by
  obtain ⟨own, e, h1, h2 | h2⟩ := h
  · obtain ⟨_, rfl⟩ := h2; exact ⟨own, h1⟩
  · exact absurd hc h2.1
theorem err_x {S : St} {k : Nat} {l : List UInt8} {x : Rst} (hr : EAt k l x S) : DCalls Tryz.prog 63 [.loc k 0] S fun d T => ErrAt k x.2.1 x.2.2 S d ∧ T = S := by
  obtain ⟨own, e, h1, h2⟩ := hr
  refine dcalls_inline mixed Tryz.func63 rfl (fun _ _ => by kernel_rfl) (rs := [.tmp 2]) rfl (by kernel_rfl) (fun hS => ?_)
  (simp (disch := first | decide | omega | (simp only [nx]; first | done | omega)) only [go_sem, h1]; (repeat with_reducible refine aI ?_))
  exact h2
theorem field_x {S : St} {k : Nat} {l : List UInt8} {x : Rst} (g : FuncId) (fs cs : List D) (C : St → Prop) (E : Except Int Nat) (hk : k < S.next) (hr : EAt k l x S) (hi : x.1 ≤ l.length) (hl : l.length ≤ 1099511627776)
    (hE : ∀ s, E = .ok s → x.1 + s ≤ l.length) (hE0 : ∀ c, E = .error c → c ≠ 0)
    (hC : ∀ T, C T → S.next ≤ T.next ∧ T.ob k = S.ob k)
    (h : x.2.1 = 0 → DCalls Tryz.prog g (fs ++ [.sl .no ((l.drop x.1).map bD)] ++ cs) S fun d T => d = exD E ∧ C T) :
    DCalls Tryz.prog 58 [.loc k 0, .fn (.func g) fs cs] S fun d T' => d = undefD ∧ ∃ T, (x.2.1 = 0 → C T) ∧ (x.2.1 ≠ 0 → T = S) ∧ k < T.next ∧ EAt k l (nxt x E) T' ∧ RFr k T T' := by
  by_cases hc : x.2.1 = 0
  · obtain ⟨own, hr'⟩ := hr.nil hc
    refine dcalls_inline mixed Tryz.func58 rfl (fun _ _ => by kernel_rfl) (rs := []) rfl (by kernel_rfl) (fun hS => ?_)
    (simp (disch := first | decide | omega | (simp only [nx]; first | done | omega)) only [go_sem, hr']; (repeat with_reducible refine aI ?_))
    have hib : (x.1 : Int) ≤ (l.length : Int) := by omega
    refine ddraw_any (fun S' => S'.ob k = some (.box 91 [.sl own (l.map bD), .v (.int .i64 (x.1 : Int)), .v .nilIface])) 16 (by (first | (simp (disch := first | decide | omega | (simp only [nx]; first | done | omega)) only [go_sem, hr']; first | done | rfl) | rfl)) (by kernel_rfl) ?_
    (refine s_take 0 rfl (by kernel_rfl) (by kernel_rfl) (v := ?v1) (fun S' hz => dquietR_of ?h1) <| s_take 1 rfl (by kernel_rfl) (by kernel_rfl) (v := ?v2) (fun S' hz => dquietR_of ?h2) <| s_take 2 rfl (by kernel_rfl) (by kernel_rfl) (v := ?v3) (fun S' hz => dquietR_of ?h3) <| s_take 3 rfl (by kernel_rfl) (by kernel_rfl) (v := ?v4) (fun S' hz => dquietR_of ?h4) <| s_take 4 rfl (by kernel_rfl) (by kernel_rfl) (v := ?v5) (fun S' hz => dquietR_of ?h5) <| s_take 5 rfl (by kernel_rfl) (by kernel_rfl) (v := ?v6) (fun S' hz => dquietR_of ?h6) <| s_take 6 rfl (by kernel_rfl) (by kernel_rfl) (v := ?v7) (fun S' hz => dquietR_of ?h7) <| s_take 7 rfl (by kernel_rfl) (by kernel_rfl) (v := ?v8) (fun S' hz => dquietR_of ?h8) <| s_take 8 rfl (by kernel_rfl) (by kernel_rfl) (v := ?v9) (fun S' hz => dquietR_of ?h9) <| ?k9; (case h1 | h2 | h3 | h4 | h5 | h6 | h7 | h8 | h9 => ((simp (disch := first | decide | omega | (simp only [nx]; first | done | omega)) only [go_sem, hr', hz]; (repeat with_reducible refine aI ?_)); first | done | exact rfl | omega)))
    refine s_take 9 rfl (by kernel_rfl) (by kernel_rfl) (v := .sl .no ((l.drop x.1).map bD)) (fun S' hz => dquietR_of (by simp (disch := first | decide | omega | (simp only [nx]; first | done | omega)) only [go_sem, hz]; exact ⟨⟨hib, .inr (wd_c l)⟩, by first | rw [take_bD, List.map_drop] | rw [List.map_drop]⟩)) ?_
    (refine s_split [10] (by kernel_rfl) (by simp) ?_; intro j_ hj_; obtain rfl : j_ = 10 := (by simpa using hj_); clear hj_; refine s_op rfl ?_; (simp (disch := first | decide | omega | (simp only [nx]; first | done | omega)) only [go_sem, hr']; (repeat with_reducible refine aI ?_)))
    refine (h hc).mono ?_
    rintro _ T ⟨rfl, hcT⟩
    have hT := (hC T hcT).2.trans hr'
    have hn := (hC T hcT).1
    refine ⟨hT, ?_⟩
    cases E with
    | ok s =>
      have hs := hE s rfl
      unfold exD
      (refine s_take 11 rfl (by kernel_rfl) (by kernel_rfl) (v := ?v10) (fun S' hz => dquietR_of ?h10) <| s_take 12 rfl (by kernel_rfl) (by kernel_rfl) (v := ?v11) (fun S' hz => dquietR_of ?h11) <| s_take 13 rfl (by kernel_rfl) (by kernel_rfl) (v := ?v12) (fun S' hz => dquietR_of ?h12) <| s_take 14 rfl (by kernel_rfl) (by kernel_rfl) (v := ?v13) (fun S' hz => dquietR_of ?h13) <| s_take 15 rfl (by kernel_rfl) (by kernel_rfl) (v := ?v14) (fun S' hz => dquietR_of ?h14) <| ?k14; (case h10 | h11 | h12 | h13 | h14 => ((simp (disch := first | decide | omega | (simp only [nx]; first | done | omega)) only [go_sem, hT, hz]; (repeat with_reducible refine aI ?_)); first | done | exact rfl | omega)))
      have b00 : ((0 : Int) != 0) = false := rfl
      have wi : IntKind.i64.wrap ((x.1 : Int) + (s : Int)) = ((x.1 + s : Nat) : Int) := by rw [IntWalk.i64_in _ ⟨by omega, by omega⟩]; push_cast; rfl
      (refine s_done (by kernel_rfl) ?_; (simp (disch := first | decide | omega | (simp only [nx]; first | done | omega)) only [go_sem, hT, b00, wi]; (repeat with_reducible refine aI ?_)))
      refine ⟨T, fun _ => hcT, fun h => absurd hc h, by omega, ?_, RFr.put _ _ _⟩
      simp only [nxt, if_pos hc]
      exact ⟨own, _, set_eq, .inl ⟨hc, rfl⟩⟩
    | error c =>
      have h0 := hE0 c rfl
      unfold exD
      (refine s_take 11 rfl (by kernel_rfl) (by kernel_rfl) (v := ?v15) (fun S' hz => dquietR_of ?h15) <| s_take 12 rfl (by kernel_rfl) (by kernel_rfl) (v := ?v16) (fun S' hz => dquietR_of ?h16) <| s_take 13 rfl (by kernel_rfl) (by kernel_rfl) (v := ?v17) (fun S' hz => dquietR_of ?h17) <| s_take 14 rfl (by kernel_rfl) (by kernel_rfl) (v := ?v18) (fun S' hz => dquietR_of ?h18) <| s_take 15 rfl (by kernel_rfl) (by kernel_rfl) (v := ?v19) (fun S' hz => dquietR_of ?h19) <| ?k19; (case h15 | h16 | h17 | h18 | h19 => ((simp (disch := first | decide | omega | (simp only [nx]; first | done | omega)) only [go_sem, hT, hz]; (repeat with_reducible refine aI ?_)); first | done | exact rfl | omega)))
      have b00 : (c != 0) = true := by simpa using h0
      (refine s_done (by kernel_rfl) ?_; (simp (disch := first | decide | omega | (simp only [nx]; first | done | omega)) only [go_sem, hT, b00]; (repeat with_reducible refine aI ?_)))
      refine (fail_x (x := x) c ⟨own, _, hT, .inl ⟨hc, rfl⟩⟩).mono ?_
      rintro _ T1 ⟨rfl, h1, h2⟩
      rw [faE, if_neg h0] at h1
      (simp (disch := first | decide | omega | (simp only [nx]; first | done | omega)) only [go_sem]; (repeat with_reducible refine aI ?_))
      exact ⟨T, fun _ => hcT, fun h => absurd hc h, by omega, h1, h2⟩
  · obtain ⟨own, e, h1, h2⟩ := hr
    rcases h2 with ⟨h2, rfl⟩ | ⟨h2, b, h3, rfl, h4⟩
    · exact absurd h2 hc
    refine dcalls_inline mixed Tryz.func58 rfl (fun _ _ => by kernel_rfl) (rs := []) rfl (by kernel_rfl) (fun hS => ?_)
    (simp (disch := first | decide | omega | (simp only [nx]; first | done | omega)) only [go_sem, h1]; (repeat with_reducible refine aI ?_))
    rw [nuE_no hc]
    exact ⟨S, fun h => absurd h hc, fun _ => rfl, hk, ⟨own, _, h1, .inr ⟨h2, b, h3, rfl, h4⟩⟩, RFr.refl _ _⟩
theorem byte1_x {S : St} {b : Nat} {l : List UInt8} (hb : S.ob b = some (.box 5 [.v (.int .u8 0)])) :
    DCalls Tryz.prog 59 [.sl .no (l.map bD), .loc b 0] S fun d T => d = exD (byE l) ∧ T.ob b = some (.box 5 [bD (l.headD 0)]) ∧ RFr b S T := by
  refine dcalls_inline mixed Tryz.func59 rfl (fun _ _ => by kernel_rfl) (rs := [.tmp 3, .tmp 4]) rfl (by kernel_rfl) (fun hS => ?_)
  cases l with
  | nil =>
    (simp (disch := first | decide | omega | (simp only [nx]; first | done | omega)) only [go_sem, hb, List.map_nil, List.length_nil, nil0]; (repeat with_reducible refine aI ?_))
    exact ⟨rfl, rfl, RFr.refl _ _⟩
  | cons c l =>
    (simp (disch := first | decide | omega | (simp only [nx]; first | done | omega)) only [go_sem, hb, List.map_cons, List.length_cons, succ0, bD]; (repeat with_reducible refine aI ?_))
    exact ⟨rfl, rfl, RFr.put _ _ _⟩
theorem byE_ok {l : List UInt8} {s : Nat} (h : byE l = .ok s) : s ≤ l.length := by
  cases l with
  | nil => cases h
  | cons b l => injection h with h; subst h; simp
theorem byE_er {l : List UInt8} {c : Int} (h : byE l = .error c) : c ≠ 0 := by
  cases l with
  | nil => injection h with h; subst h; decide
  | cons b l => cases h
theorem byte_x {S : St} {k : Nat} {l : List UInt8} {x : Rst} (hk : k < S.next) (hr : EAt k l x S) (hi : x.1 ≤ l.length) (hl : l.length ≤ 1099511627776) :
    DCalls Tryz.prog 20 [.loc k 0] S fun d T => d = bD (byV l x) ∧ EAt k l (nxt x (byE (l.drop x.1))) T ∧ RFr k S T := by
  refine dcalls_inline mixed Tryz.func20 rfl (fun _ _ => by kernel_rfl) (rs := [.tmp 2]) rfl (by kernel_rfl) (fun hS => ?_)
  (simp (disch := first | decide | omega | (simp only [nx]; first | done | omega)) only [go_sem]; (repeat with_reducible refine aI ?_))
  obtain ⟨S0, hS0⟩ : ∃ S0 : St, S0 = S.add (.box 5 [.v (.int .u8 0)]) := ⟨_, rfl⟩
  have hn0 : S0.next = S.next + 1 := by rw [hS0]; rfl
  have k0 : ∀ j o, S.ob j = some o → S0.ob j = some o := fun j o e => by
    have := hS.lt e
    rw [hS0]
    rw [add_ne this, e]
  have h0 : S0.ob (S.next) = some (.box 5 [.v (.int .u8 0)]) := by
    rw [hS0]; exact add_eq
  rw [← hS0]
  refine (field_x _ [] _ (fun T => (∃ d, (d = bD ((l.drop x.1).headD 0)) ∧ T.ob (S.next) = some (.box 5 [d])) ∧ RFr (S.next) S0 T) (byE (l.drop x.1)) (by omega) (hr.keep k0) hi hl (fun s h => by have := byE_ok h; rw [List.length_drop] at this; omega) (fun c h => byE_er h) ?_ ?_).mono ?_
  · rintro T ⟨_, h2⟩
    obtain ⟨own, e, hb, _⟩ := hr
    exact ⟨h2.next, (h2.ob k _ (by omega) (k0 _ _ hb)).trans (k0 _ _ hb).symm⟩
  · intro _
    refine (byte1_x h0).mono ?_
    rintro _ T ⟨rfl, h1, h2⟩
    exact ⟨rfl, ⟨_, rfl, h1⟩, h2⟩
  · rintro _ T' ⟨rfl, T, hc0, hc1, hk', hE, hF⟩
    have hFT : RFr (S.next) S0 T := by
      by_cases hc : x.2.1 = 0
      · exact (hc0 hc).2
      · rw [hc1 hc]; exact RFr.refl _ _
    have hFS : RFr k S T' := ⟨by have := hFT.next; have := hF.next; omega, fun j o hj e => by have := hS.lt e; exact hF.ob j o hj (hFT.ob j o (by omega) (k0 j o e))⟩
    have hv : ∃ d, (d = bD (byV l x)) ∧ T'.ob (S.next) = some (.box 5 [d]) := by
      by_cases hc : x.2.1 = 0
      · obtain ⟨d, hd, hb⟩ := (hc0 hc).1
        refine ⟨d, ?_, hF.box _ _ _ (by omega) hb⟩
        rw [hd, byV, if_pos hc]
      · rw [hc1 hc] at hF
        refine ⟨_, ?_, hF.box _ _ _ (by omega) h0⟩
        rw [byV, if_neg hc]; rfl
    obtain ⟨dv, hdv, hv⟩ := hv
    clear hc0 hc1
    (simp (disch := first | decide | omega | (simp only [nx]; first | done | omega)) only [go_sem, hv]; (repeat with_reducible refine aI ?_))
    (repeat' refine And.intro ?_ ?_) <;> first | exact hFS | exact hE | exact hdv
theorem num1_x {S : St} {a b : Nat} {l : List UInt8} {m : Nat} (ha : S.ob a = some (.box 54 [.v (.int .u64 (m : Int))])) (hb : S.ob b = some (.box 54 [.v (.int .u64 0)])) (hl : l.length ≤ 1099511627776) :
    DCalls Tryz.prog 86 [.sl .no (l.map bD), .loc a 0, .loc b 0] S fun d T => d = exD (nuE l m) ∧ T.ob b = some (.box 54 [.v (.int .u64 ((nuV l (0, 0, 0) m : Nat) : Int))]) ∧ RFr b S T := by
  refine dcalls_inline mixed Tryz.func86 rfl (fun _ _ => by kernel_rfl) (rs := [.tmp 4, .tmp 5]) rfl (by kernel_rfl) (fun hS => ?_)
  have b00 : ((0 : Int) != 0) = false := rfl
  have b01 : ((0 : Int) == 0) = true := rfl
  have b02 : ((2 : Int) == 0) = false := rfl
  (simp (disch := first | decide | omega | (simp only [nx]; first | done | omega)) only [go_sem, ha, hb]; (repeat with_reducible refine aI ?_))
  refine DCalls.of_pure (number_d .no l hl) ?_
  cases hN : numP l with
  | none =>
    simp only [nuE, nuV, List.drop_zero, hN, if_true]
    (simp (disch := first | decide | omega | (simp only [nx]; first | done | omega)) only [go_sem, ha, hb, b02, numD]; (repeat with_reducible refine aI ?_))
    (repeat' refine And.intro ?_ ?_) <;> first | exact RFr.put _ _ _ | rfl
  | some r =>
    obtain ⟨n, s⟩ := r
    by_cases hm : m < n
    · have b1 : decide ((m : Int) < (n : Int)) = true := decide_eq_true (by omega)
      simp only [nuE, nuV, List.drop_zero, hN, if_true, if_pos hm]
      (simp (disch := first | decide | omega | (simp only [nx]; first | done | omega)) only [go_sem, ha, hb, b01, b1, numD]; (repeat with_reducible refine aI ?_))
      (repeat' refine And.intro ?_ ?_) <;> first | exact RFr.refl _ _ | rfl
    · have b1 : decide ((m : Int) < (n : Int)) = false := decide_eq_false (by omega)
      simp only [nuE, nuV, List.drop_zero, hN, if_true, if_neg hm]
      (simp (disch := first | decide | omega | (simp only [nx]; first | done | omega)) only [go_sem, ha, hb, b01, b1, numD]; (repeat with_reducible refine aI ?_))
      (repeat' refine And.intro ?_ ?_) <;> first | exact RFr.put _ _ _ | rfl
theorem nuE_ok {l : List UInt8} {m s : Nat} (h : nuE l m = .ok s) : s ≤ l.length := by
  unfold nuE at h
  split at h
  · cases h
  · rename_i n q hN
    split at h
    · cases h
    · injection h with h; subst h; exact (numP_le hN).1
theorem nuE_er {l : List UInt8} {m : Nat} {c : Int} (h : nuE l m = .error c) : c ≠ 0 := by
  unfold nuE at h
  split at h
  · injection h with h; subst h; decide
  · split at h
    · injection h with h; subst h; decide
    · cases h
theorem nuV_drop (l : List UInt8) (x : Rst) (m : Nat) : nuV l x m = if x.2.1 = 0 then nuV (l.drop x.1) (0, 0, 0) m else 0 := by
  unfold nuV
  simp only [List.drop_zero, if_true]
theorem number_x {S : St} {k : Nat} {l : List UInt8} {x : Rst} {m : Nat} (hk : k < S.next) (hr : EAt k l x S) (hi : x.1 ≤ l.length) (hl : l.length ≤ 1099511627776) :
    DCalls Tryz.prog 62 [.loc k 0, .v (.int .u64 (m : Int))] S fun d T => d = .v (.int .u64 ((nuV l x m : Nat) : Int)) ∧ EAt k l (nxt x (nuE (l.drop x.1) m)) T ∧ RFr k S T := by
  refine dcalls_inline mixed Tryz.func62 rfl (fun _ _ => by kernel_rfl) (rs := [.tmp 4]) rfl (by kernel_rfl) (fun hS => ?_)
  (simp (disch := first | decide | omega | (simp only [nx]; first | done | omega)) only [go_sem]; (repeat with_reducible refine aI ?_))
  obtain ⟨S0, hS0⟩ : ∃ S0 : St, S0 = (S.add (.box 54 [.v (.int .u64 (m : Int))])).add (.box 54 [.v (.int .u64 0)]) := ⟨_, rfl⟩
  have hn0 : S0.next = S.next + 2 := by rw [hS0]; rfl
  have k0 : ∀ j o, S.ob j = some o → S0.ob j = some o := fun j o e => by
    have := hS.lt e
    rw [hS0]
    rw [add_ne (by show j < S.next + 1; omega), add_ne this, e]
  have h0 : S0.ob (S.next + 1) = some (.box 54 [.v (.int .u64 0)]) := by
    rw [hS0]; exact add_eq (S := S.add _)
  rw [← hS0]
  refine (field_x _ [] _ (fun T => (∃ d, (d = .v (.int .u64 ((nuV (l.drop x.1) (0, 0, 0) m : Nat) : Int))) ∧ T.ob (S.next + 1) = some (.box 54 [d])) ∧ RFr (S.next + 1) S0 T) (nuE (l.drop x.1) m) (by omega) (hr.keep k0) hi hl (fun s h => by have := nuE_ok h; rw [List.length_drop] at this; omega) (fun c h => nuE_er h) ?_ ?_).mono ?_
  · rintro T ⟨_, h2⟩
    obtain ⟨own, e, hb, _⟩ := hr
    exact ⟨h2.next, (h2.ob k _ (by omega) (k0 _ _ hb)).trans (k0 _ _ hb).symm⟩
  · intro _
    refine (num1_x (m := m) (a := S.next) (by rw [hS0, add_ne (by show S.next < S.next + 1; omega), add_eq]) h0 (by rw [List.length_drop]; omega)).mono ?_
    rintro _ T ⟨rfl, h1, h2⟩
    exact ⟨rfl, ⟨_, rfl, h1⟩, h2⟩
  · rintro _ T' ⟨rfl, T, hc0, hc1, hk', hE, hF⟩
    have hFT : RFr (S.next + 1) S0 T := by
      by_cases hc : x.2.1 = 0
      · exact (hc0 hc).2
      · rw [hc1 hc]; exact RFr.refl _ _
    have hFS : RFr k S T' := ⟨by have := hFT.next; have := hF.next; omega, fun j o hj e => by have := hS.lt e; exact hF.ob j o hj (hFT.ob j o (by omega) (k0 j o e))⟩
    have hv : ∃ d, (d = .v (.int .u64 ((nuV l x m : Nat) : Int))) ∧ T'.ob (S.next + 1) = some (.box 54 [d]) := by
      by_cases hc : x.2.1 = 0
      · obtain ⟨d, hd, hb⟩ := (hc0 hc).1
        refine ⟨d, ?_, hF.box _ _ _ (by omega) hb⟩
        rw [hd, nuV_drop l, if_pos hc]
      · rw [hc1 hc] at hF
        refine ⟨_, ?_, hF.box _ _ _ (by omega) h0⟩
        rw [nuV_drop, if_neg hc]; rfl
    obtain ⟨dv, hdv, hv⟩ := hv
    clear hc0 hc1
    (simp (disch := first | decide | omega | (simp only [nx]; first | done | omega)) only [go_sem, hv]; (repeat with_reducible refine aI ?_))
    (repeat' refine And.intro ?_ ?_) <;> first | exact hFS | exact hE | exact hdv
end
end Go.Proofs.YtonncfminojejaaGreatDoor

namespace Go.Proofs.YtonncfminojejaaGreatDoor
open Go.RowKit
theorem first_skip : ∀ {l : List D} {i : Nat}, (∀ j (h : j < l.length), j < i → l[j] = .v .nilIface) → firstD l = firstD (l.drop i)
  | l, 0, _ => by simp
  | [], i + 1, _ => by simp
  | d :: l, i + 1, h => by
    have h0 := h 0 (by simp) (by omega)
    simp only [List.getElem_cons_zero] at h0
    subst h0
    show firstD l = firstD (l.drop i)
    exact first_skip fun j hj hi => h (j + 1) (by simp only [List.length_cons]; omega) (by omega)
def ErrV (d : D) : Prop := d = .v .nilIface ∨ ∃ t u, d = .ifc t u
set_option maxRecDepth 200000 in
set_option maxHeartbeats 4000000 in
theorem first_at {S : St} (own : Own) (l : List D) (he : ∀ d ∈ l, ErrV d) (hz : ∀ d ∈ l, d.frz = d) (hin : S.WF → (firstD l).all (· < S.next)) (hl : l.length < 1000000) : DAt Tryz.prog 67 [.sl own l] S (firstD l) := by
  refine dat_of_dwpA (d := firstD l) mixed Tryz.func67 rfl (fun _ _ => by kernel_rfl) (rs := [.tmp 2]) rfl (by kernel_rfl) hin (fun hS => ?_)
  (simp (disch := first | decide | omega | (simp only [nx]; first | done | omega)) only [go_sem]; (repeat with_reducible refine aI ?_))
  (refine dloop_st (fun t => List.contains [2, 4, 7, 8, 9, 10, 11, 12, 13, 14] t) (by kernel_rfl) ?_ (l.length) (fun i f => i ≤ l.length ∧ f 7 = .v (.int .i64 (i : Nat)) ∧ f 2 = .v .nilIface ∧ (∀ j (h : j < l.length), j < i → l[j] = .v .nilIface)) ?_ ?_; (exact (by (repeat' first | assumption | refine St.WF.leave ?_ _ | refine St.WF.add ?_ _ | refine St.WF.set ?_ ?_ _ | refine St.WF.grow ?_ _ _ _ | refine St.WF.keep ?_ ?_ | (first | omega | (simp only [RowOk.lo, nx]; first | done | omega))))); (exact ⟨(by omega), (by (first | (simp (disch := first | decide | omega | (simp only [nx]; first | done | omega)) only [go_sem]; first | done | rfl) | rfl)), (by (first | (simp (disch := first | decide | omega | (simp only [nx]; first | done | omega)) only [go_sem]; first | done | rfl) | rfl)), (fun j _ hj => by omega)⟩); intro i g tn hn hT hg hI; obtain ⟨le, q7, q2, hno⟩ := hI; have q5 := hg 5 rfl; have q6 := hg 6 rfl; simp (disch := first | decide | omega | (simp only [nx]; first | done | omega)) only [go_sem] at q5 q6; clear hg; have hn' := hn; try simp only [add_next, set_next, grow_next, leave_next, drop_next] at hn')
  have hsk := first_skip hno
  by_cases hlt : i < l.length
  · have b1 : decide ((i : Int) < (l.length : Int)) = true := by simp; omega
    have w1 : IntKind.i64.wrap ((i : Int) + 1) = ((i + 1 : Nat) : Int) := IntWalk.i64_in _ ⟨by omega, by omega⟩
    have hx0 : l.getD i undefD = l[i] := by rw [List.getD_eq_getElem?_getD, List.getElem?_eq_getElem hlt]; rfl
    rcases he _ (List.getElem_mem hlt) with hx | ⟨t, u, hx⟩
    · rw [hx] at hx0
      (simp (disch := first | decide | omega | (simp only [nx]; first | done | omega)) only [go_sem, q5, q6, q7, b1, w1, hx0]; (repeat with_reducible refine aI ?_))
      (refine ⟨by omega, (by (repeat' first | assumption | exact St.Sub.refl _ | exact RowOk.sub (by assumption) (by assumption) | refine St.Sub.trans ?_ (RowOk.sub (by assumption) (by assumption)) | refine St.Sub.add ?_ ?_ _ | refine St.Sub.set ?_ ?_ ?_ _ | refine St.Sub.keep ?_ ?_ | refine St.WF.leave ?_ _ | refine St.WF.add ?_ _ | refine St.WF.set ?_ ?_ _ | refine St.WF.grow ?_ _ _ _ | refine St.WF.keep ?_ ?_ | (first | omega | (simp only [RowOk.lo, nx]; first | done | omega)))), ?_⟩; refine ⟨by omega, ?_, ?_, ?_⟩; all_goals (try (first | (simp (disch := first | decide | omega | (simp only [nx]; first | done | omega)) only [go_sem, w1, q2]; first | done | rfl) | rfl)))
      intro j hj hji
      by_cases e : j = i
      · subst e; exact hx
      · exact hno j hj (by omega)
    · rw [hx] at hx0
      (simp (disch := first | decide | omega | (simp only [nx]; first | done | omega)) only [go_sem, q5, q6, q7, b1, hx0]; (repeat with_reducible refine aI ?_))
      refine ⟨?_, (by (repeat' first | assumption | exact St.Sub.refl _ | exact RowOk.sub (by assumption) (by assumption) | refine St.Sub.trans ?_ (RowOk.sub (by assumption) (by assumption)) | refine St.Sub.add ?_ ?_ _ | refine St.Sub.set ?_ ?_ ?_ _ | refine St.Sub.keep ?_ ?_ | refine St.WF.leave ?_ _ | refine St.WF.add ?_ _ | refine St.WF.set ?_ ?_ _ | refine St.WF.grow ?_ _ _ _ | refine St.WF.keep ?_ ?_ | (first | omega | (simp only [RowOk.lo, nx]; first | done | omega))))⟩
      rw [hsk, List.drop_eq_getElem_cons hlt, hx]
      have hz0 := hz _ (List.getElem_mem hlt)
      rw [hx] at hz0
      rw [hz0]
      rfl
  · have b1 : decide ((i : Int) < (l.length : Int)) = false := by simp; omega
    (simp (disch := first | decide | omega | (simp only [nx]; first | done | omega)) only [go_sem, q5, q6, q7, b1]; (repeat with_reducible refine aI ?_))
    refine ⟨?_, (by (repeat' first | assumption | exact St.Sub.refl _ | exact RowOk.sub (by assumption) (by assumption) | refine St.Sub.trans ?_ (RowOk.sub (by assumption) (by assumption)) | refine St.Sub.add ?_ ?_ _ | refine St.Sub.set ?_ ?_ ?_ _ | refine St.Sub.keep ?_ ?_ | refine St.WF.leave ?_ _ | refine St.WF.add ?_ _ | refine St.WF.set ?_ ?_ _ | refine St.WF.grow ?_ _ _ _ | refine St.WF.keep ?_ ?_ | (first | omega | (simp only [RowOk.lo, nx]; first | done | omega))))⟩
    rw [hsk, List.drop_eq_nil_of_le (by omega)]
    rfl
end Go.Proofs.YtonncfminojejaaGreatDoor

namespace Go.Proofs.YtonncfminojejaaGreatDoor
open Go.RowKit
section
set_option maxRecDepth 200000
set_option maxHeartbeats 8000000
theorem bool1_x {S : St} {b : Nat} {l : List UInt8} (hb : S.ob b = some (.box 4 [.v (.bool false)])) :
    DCalls Tryz.prog 60 [.sl .no (l.map bD), .loc b 0] S fun d T => d = exD (boE l) ∧ T.ob b = some (.box 4 [.v (.bool (decide (l.headD 0 = 1)))]) ∧ RFr b S T := by
  refine dcalls_inline mixed Tryz.func60 rfl (fun _ _ => by kernel_rfl) (rs := [.tmp 3, .tmp 4]) rfl (by kernel_rfl) (fun hS => ?_)
  cases l with
  | nil =>
    (simp (disch := first | decide | omega | (simp only [nx]; first | done | omega)) only [go_sem, hb, List.map_nil, List.length_nil, nil0]; (repeat with_reducible refine aI ?_))
    (repeat' refine And.intro ?_ ?_) <;> first | exact RFr.refl _ _ | rfl
  | cons c l =>
    by_cases h : 1 < c.toNat
    · have b3 : decide ((1 : Int) < (c.toNat : Int)) = true := decide_eq_true (by omega)
      have hc : c ≠ 1 := by rintro rfl; exact absurd h (by decide)
      have he : boE (c :: l) = .error 2 := if_pos h
      rw [he]
      (simp (disch := first | decide | omega | (simp only [nx]; first | done | omega)) only [go_sem, hb, List.map_cons, List.length_cons, succ0, bD, b3]; (repeat with_reducible refine aI ?_))
      (repeat' refine And.intro ?_ ?_) <;> first | exact RFr.refl _ _ | rfl | simp [hc]
    · have b3 : decide ((1 : Int) < (c.toNat : Int)) = false := decide_eq_false (by omega)
      have he : boE (c :: l) = .ok 1 := if_neg h
      have b4 : ((c.toNat : Int) == 1) = decide (c = 1) := by
        by_cases h1 : c = 1
        · subst h1; rfl
        · have : c.toNat ≠ 1 := fun h => h1 (UInt8.toNat_inj.1 h)
          rw [decide_eq_false h1]
          simp; omega
      rw [he]
      (simp (disch := first | decide | omega | (simp only [nx]; first | done | omega)) only [go_sem, hb, List.map_cons, List.length_cons, succ0, bD, b3, b4]; (repeat with_reducible refine aI ?_))
      (repeat' refine And.intro ?_ ?_) <;> first | exact RFr.put _ _ _ | rfl | simp
theorem boE_ok {l : List UInt8} {s : Nat} (h : boE l = .ok s) : s ≤ l.length := by
  cases l with
  | nil => cases h
  | cons b l =>
    by_cases hb : 1 < b.toNat
    · rw [show boE (b :: l) = .error 2 from if_pos hb] at h; cases h
    · rw [show boE (b :: l) = .ok 1 from if_neg hb] at h; injection h with h; subst h; simp
theorem boE_er {l : List UInt8} {c : Int} (h : boE l = .error c) : c ≠ 0 := by
  cases l with
  | nil => injection h with h; subst h; decide
  | cons b l =>
    by_cases hb : 1 < b.toNat
    · rw [show boE (b :: l) = .error 2 from if_pos hb] at h; injection h with h; subst h; decide
    · rw [show boE (b :: l) = .ok 1 from if_neg hb] at h; cases h
theorem bool_x {S : St} {k : Nat} {l : List UInt8} {x : Rst} (hk : k < S.next) (hr : EAt k l x S) (hi : x.1 ≤ l.length) (hl : l.length ≤ 1099511627776) :
    DCalls Tryz.prog 21 [.loc k 0] S fun d T => (d = .v (.bool (boV l x))) ∧ EAt k l (nxt x (boE (l.drop x.1))) T ∧ RFr k S T := by
  refine dcalls_inline mixed Tryz.func21 rfl (fun _ _ => by kernel_rfl) (rs := [.tmp 2]) rfl (by kernel_rfl) (fun hS => ?_)
  (simp (disch := first | decide | omega | (simp only [nx]; first | done | omega)) only [go_sem]; (repeat with_reducible refine aI ?_))
  obtain ⟨S0, hS0⟩ : ∃ S0 : St, S0 = (S.add (.box 4 [.v (.bool false)])).set S.next (.box 4 [.v (.bool false)]) := ⟨_, rfl⟩
  have hn0 : S0.next = S.next + 1 := by rw [hS0]; rfl
  have k0 : ∀ j o, S.ob j = some o → S0.ob j = some o := fun j o e => by
    have := hS.lt e
    rw [hS0]
    rw [set_ne (by omega), add_ne this, e]
  have h0 : S0.ob (S.next) = some (.box 4 [.v (.bool false)]) := by
    rw [hS0]; exact set_eq
  rw [← hS0]
  refine (field_x _ [] _ (fun T => (∃ d, (d = .v (.bool (decide ((l.drop x.1).headD 0 = 1)))) ∧ T.ob (S.next) = some (.box 4 [d])) ∧ RFr (S.next) S0 T) (boE (l.drop x.1)) (by omega) (hr.keep k0) hi hl (fun s h => by have := boE_ok h; rw [List.length_drop] at this; omega) (fun c h => boE_er h) ?_ ?_).mono ?_
  · rintro T ⟨_, h2⟩
    obtain ⟨own, e, hb, _⟩ := hr
    exact ⟨h2.next, (h2.ob k _ (by omega) (k0 _ _ hb)).trans (k0 _ _ hb).symm⟩
  · intro _
    refine (bool1_x h0).mono ?_
    rintro _ T ⟨rfl, h1, h2⟩
    exact ⟨rfl, ⟨_, rfl, h1⟩, h2⟩
  · rintro _ T' ⟨rfl, T, hc0, hc1, hk', hE, hF⟩
    have hFT : RFr (S.next) S0 T := by
      by_cases hc : x.2.1 = 0
      · exact (hc0 hc).2
      · rw [hc1 hc]; exact RFr.refl _ _
    have hFS : RFr k S T' := ⟨by have := hFT.next; have := hF.next; omega, fun j o hj e => by have := hS.lt e; exact hF.ob j o hj (hFT.ob j o (by omega) (k0 j o e))⟩
    have hv : ∃ d, (d = .v (.bool (boV l x))) ∧ T'.ob (S.next) = some (.box 4 [d]) := by
      by_cases hc : x.2.1 = 0
      · obtain ⟨d, hd, hb⟩ := (hc0 hc).1
        refine ⟨d, ?_, hF.box _ _ _ (by omega) hb⟩
        rw [hd, boV, if_pos hc]
      · rw [hc1 hc] at hF
        refine ⟨_, ?_, hF.box _ _ _ (by omega) h0⟩
        rw [boV, if_neg hc]
    obtain ⟨dv, hdv, hv⟩ := hv
    clear hc0 hc1
    (simp (disch := first | decide | omega | (simp only [nx]; first | done | omega)) only [go_sem, hv]; (repeat with_reducible refine aI ?_))
    (repeat' refine And.intro ?_ ?_) <;> first | exact hFS | exact hE | exact hdv
theorem max0 (mx : Int) : (if (0 : Int) < mx then mx else 0) = (mx.toNat : Int) := by split <;> omega
theorem bsV_drop (l : List UInt8) (x : Rst) (m : Nat) : bsV l x m = if x.2.1 = 0 then bsV (l.drop x.1) (0, 0, 0) m else [] := by
  unfold bsV
  simp only [List.drop_zero, if_true]
theorem rwV_drop (l : List UInt8) (x : Rst) (m : Nat) : rwV l x m = if x.2.1 = 0 then rwV (l.drop x.1) (0, 0, 0) m else [] := by
  unfold rwV
  simp only [List.drop_zero, if_true]
theorem bsE_ok {l : List UInt8} {m s : Nat} (h : bsE l m = .ok s) : s ≤ l.length := by
  unfold bsE at h
  split at h
  · cases h
  · rename_i n q hN
    have := (numP_le hN).1
    split at h
    · cases h
    · split at h
      · cases h
      · injection h with h; omega
theorem bsE_er {l : List UInt8} {m : Nat} {c : Int} (h : bsE l m = .error c) : c ≠ 0 := by
  unfold bsE at h
  split at h
  · injection h with h; subst h; decide
  · split at h
    · injection h with h; subst h; decide
    · split at h
      · injection h with h; subst h; decide
      · cases h
theorem rwE_ok {l : List UInt8} {m s : Nat} (h : rwE l m = .ok s) : s ≤ l.length := by
  unfold rwE at h
  split at h
  · cases h
  · injection h with h; omega
theorem rwE_er {l : List UInt8} {m : Nat} {c : Int} (h : rwE l m = .error c) : c ≠ 0 := by
  unfold rwE at h
  split at h
  · injection h with h; subst h; decide
  · cases h
theorem byt1_x {S : St} {a b : Nat} {l : List UInt8} {mx : Int} (hm : IsI64 mx) (hbn : b < S.next) (ha : S.ob a = some (.box 3 [.v (.int .i64 mx)])) (hb : S.ob b = some (.box 22 [.sl .full []])) (hl : l.length ≤ 1099511627776) :
    DCalls Tryz.prog 64 [.sl .no (l.map bD), .loc a 0, .loc b 0] S fun d T => d = exD (bsE l mx.toNat) ∧ (∃ o, T.ob b = some (.box 22 [.sl o ((bsV l (0, 0, 0) mx.toNat).map bD)])) ∧ RFr b S T := by
  unfold IsI64 at hm
  refine dcalls_inline mixed Tryz.func64 rfl (fun _ _ => by kernel_rfl) (rs := [.tmp 4, .tmp 5]) rfl (by kernel_rfl) (fun hS => ?_)
  have b00 : ((0 : Int) != 0) = false := rfl
  have b02 : ((2 : Int) != 0) = true := rfl
  have wm : IntKind.u64.wrap (mx.toNat : Int) = (mx.toNat : Int) := wrap_u64 _ (by unfold IsU64; omega)
  (simp (disch := first | decide | omega | (simp only [nx]; first | done | omega)) only [go_sem, ha, hb]; (repeat with_reducible refine aI ?_))
  refine DCalls.of_pure (number_d .no l hl) ?_
  cases hN : numP l with
  | none =>
    simp only [bsE, bsV, List.drop_zero, hN, if_true]
    (simp (disch := first | decide | omega | (simp only [nx]; first | done | omega)) only [go_sem, ha, hb, b02, numD]; (repeat with_reducible refine aI ?_))
    exact ⟨rfl, ⟨.full, rfl⟩, RFr.refl _ _⟩
  | some r =>
    obtain ⟨n, q⟩ := r
    have hq := (numP_le hN).1
    have hnu := (numP_le hN).2
    unfold IsU64 at hnu
    by_cases hmn : mx.toNat < n
    · have b1 : decide ((mx.toNat : Int) < (n : Int)) = true := decide_eq_true (by omega)
      simp only [bsE, bsV, List.drop_zero, hN, if_true, if_pos hmn]
      (simp (disch := first | decide | omega | (simp only [nx]; first | done | omega)) only [go_sem, ha, hb, b00, numD, max0, wm, b1]; (repeat with_reducible refine aI ?_))
      exact ⟨rfl, ⟨.full, rfl⟩, RFr.refl _ _⟩
    · have b1 : decide ((mx.toNat : Int) < (n : Int)) = false := decide_eq_false (by omega)
      have wl : IntKind.i64.wrap ((l.length : Int) - (q : Int)) = ((l.length - q : Nat) : Int) := by rw [IntWalk.i64_in _ ⟨by omega, by omega⟩]; omega
      have wu : IntKind.u64.wrap ((l.length - q : Nat) : Int) = ((l.length - q : Nat) : Int) := wrap_u64 _ (by unfold IsU64; omega)
      by_cases hln : l.length - q < n
      · have b2 : decide (((l.length - q : Nat) : Int) < (n : Int)) = true := decide_eq_true (by omega)
        simp only [bsE, bsV, List.drop_zero, hN, if_true, if_neg hmn, if_pos hln]
        (simp (disch := first | decide | omega | (simp only [nx]; first | done | omega)) only [go_sem, ha, hb, b00, numD, max0, wm, b1, wl, wu, b2]; (repeat with_reducible refine aI ?_))
        exact ⟨rfl, ⟨.full, rfl⟩, RFr.refl _ _⟩
      · have b2 : decide (((l.length - q : Nat) : Int) < (n : Int)) = false := decide_eq_false (by omega)
        have wn : IntKind.i64.wrap (n : Int) = (n : Int) := IntWalk.i64_in _ ⟨by omega, by omega⟩
        have wq : IntKind.i64.wrap ((q : Int) + (n : Int)) = ((q + n : Nat) : Int) := by rw [IntWalk.i64_in _ ⟨by omega, by omega⟩]; push_cast; rfl
        simp only [bsE, bsV, List.drop_zero, hN, if_true, if_neg hmn, if_neg hln]
        (simp (disch := first | decide | omega | (simp only [nx]; first | done | omega)) only [go_sem, ha, hb, b00, numD, max0, wm, b1, wl, wu, b2]; (repeat with_reducible refine aI ?_))
        have hsl : List.drop q (List.take (q + n) (l.map bD)) = ((l.drop q).take n).map bD := by rw [← List.map_take, ← List.map_drop, List.drop_take, Nat.add_sub_cancel_left]
        have hle : ((q + n : Nat) : Int) ≤ (l.length : Int) := by omega
        have hle0 : (q : Int) ≤ ((q + n : Nat) : Int) := by omega
        have hwd := eq_true (wd_c l)
        refine ddraw_mk 8 (by kernel_rfl) ?_
        simp (disch := first | decide | omega | (simp only [nx]; first | done | omega)) only [go_sem, ha, hb, b00, wn, wq, hsl, hwd, hle, hle0]
        refine dapp_bytes (bs := []) (.inl ⟨rfl, rfl⟩) (by rw [List.length_take, List.length_drop]; simp; omega) ?_
        have hbS : (b = S.next) = False := by simp; omega
        (simp (disch := first | decide | omega | (simp only [nx]; first | done | omega)) only [go_sem, ha, hb, wn, wq, hbS]; (repeat with_reducible refine aI ?_))
        refine ⟨rfl, ⟨_, rfl⟩, ⟨Nat.le_succ _, fun j o hj e => ?_⟩⟩
        have := hS.lt e
        rw [set_ne hj]
        simp only [St.grow, St.leave]
        rw [add_ne this, e]
theorem bytes_x {S : St} {k : Nat} {l : List UInt8} {x : Rst} {mx : Int} (hm : IsI64 mx) (hk : k < S.next) (hr : EAt k l x S) (hi : x.1 ≤ l.length) (hl : l.length ≤ 1099511627776) :
    DCalls Tryz.prog 25 [.loc k 0, .v (.int .i64 mx)] S fun d T => (∃ o, d = .sl o ((bsV l x mx.toNat).map bD)) ∧ EAt k l (nxt x (bsE (l.drop x.1) mx.toNat)) T ∧ RFr k S T := by
  refine dcalls_inline mixed Tryz.func25 rfl (fun _ _ => by kernel_rfl) (rs := [.tmp 4]) rfl (by kernel_rfl) (fun hS => ?_)
  (simp (disch := first | decide | omega | (simp only [nx]; first | done | omega)) only [go_sem]; (repeat with_reducible refine aI ?_))
  obtain ⟨S0, hS0⟩ : ∃ S0 : St, S0 = (S.add (.box 3 [.v (.int .i64 mx)])).add (.box 22 [.sl .full []]) := ⟨_, rfl⟩
  have hn0 : S0.next = S.next + 2 := by rw [hS0]; rfl
  have k0 : ∀ j o, S.ob j = some o → S0.ob j = some o := fun j o e => by
    have := hS.lt e
    rw [hS0]
    rw [add_ne (by show j < S.next + 1; omega), add_ne this, e]
  have h0 : S0.ob (S.next + 1) = some (.box 22 [.sl .full []]) := by
    rw [hS0]; exact add_eq (S := S.add _)
  rw [← hS0]
  refine (field_x _ [] _ (fun T => (∃ d, (∃ o, d = .sl o ((bsV (l.drop x.1) (0, 0, 0) mx.toNat).map bD)) ∧ T.ob (S.next + 1) = some (.box 22 [d])) ∧ RFr (S.next + 1) S0 T) (bsE (l.drop x.1) mx.toNat) (by omega) (hr.keep k0) hi hl (fun s h => by have := bsE_ok h; rw [List.length_drop] at this; omega) (fun c h => bsE_er h) ?_ ?_).mono ?_
  · rintro T ⟨_, h2⟩
    obtain ⟨own, e, hb, _⟩ := hr
    exact ⟨h2.next, (h2.ob k _ (by omega) (k0 _ _ hb)).trans (k0 _ _ hb).symm⟩
  · intro _
    refine (byt1_x (a := S.next) hm (by omega) (by rw [hS0, add_ne (by show S.next < S.next + 1; omega), add_eq]) h0 (by rw [List.length_drop]; omega)).mono ?_
    rintro _ T ⟨rfl, ⟨o, h1⟩, h2⟩
    exact ⟨rfl, ⟨_, ⟨o, rfl⟩, h1⟩, h2⟩
  · rintro _ T' ⟨rfl, T, hc0, hc1, hk', hE, hF⟩
    have hFT : RFr (S.next + 1) S0 T := by
      by_cases hc : x.2.1 = 0
      · exact (hc0 hc).2
      · rw [hc1 hc]; exact RFr.refl _ _
    have hFS : RFr k S T' := ⟨by have := hFT.next; have := hF.next; omega, fun j o hj e => by have := hS.lt e; exact hF.ob j o hj (hFT.ob j o (by omega) (k0 j o e))⟩
    have hv : ∃ d, (∃ o, d = .sl o ((bsV l x mx.toNat).map bD)) ∧ T'.ob (S.next + 1) = some (.box 22 [d]) := by
      by_cases hc : x.2.1 = 0
      · obtain ⟨d, hd, hb⟩ := (hc0 hc).1
        refine ⟨d, ?_, hF.box _ _ _ (by omega) hb⟩
        rw [bsV_drop l, if_pos hc]; exact hd
      · rw [hc1 hc] at hF
        refine ⟨_, ?_, hF.box _ _ _ (by omega) h0⟩
        rw [bsV_drop, if_neg hc]; exact ⟨_, rfl⟩
    obtain ⟨dv, hdv, hv⟩ := hv
    clear hc0 hc1
    (simp (disch := first | decide | omega | (simp only [nx]; first | done | omega)) only [go_sem, hv]; (repeat with_reducible refine aI ?_))
    (repeat' refine And.intro ?_ ?_) <;> first | exact hFS | exact hE | exact hdv
theorem raw1_x {S : St} {a b : Nat} {l : List UInt8} {mx : Int} (hm : IsI64 mx) (hbn : b < S.next) (ha : S.ob a = some (.box 3 [.v (.int .i64 mx)])) (hb : S.ob b = some (.box 22 [.sl .full []])) (hl : l.length ≤ 1099511627776) :
    DCalls Tryz.prog 61 [.sl .no (l.map bD), .loc a 0, .loc b 0] S fun d T => d = exD (rwE l mx.toNat) ∧ (∃ o, T.ob b = some (.box 22 [.sl o ((rwV l (0, 0, 0) mx.toNat).map bD)])) ∧ RFr b S T := by
  refine dcalls_inline mixed Tryz.func61 rfl (fun _ _ => by kernel_rfl) (rs := [.tmp 4, .tmp 5]) rfl (by kernel_rfl) (fun hS => ?_)
  by_cases hln : l.length < mx.toNat
  · have b2 : decide ((l.length : Int) < (mx.toNat : Int)) = true := decide_eq_true (by omega)
    simp only [rwE, rwV, List.drop_zero, if_true, if_pos hln]
    (simp (disch := first | decide | omega | (simp only [nx]; first | done | omega)) only [go_sem, ha, hb, max0, b2]; (repeat with_reducible refine aI ?_))
    exact ⟨rfl, ⟨.full, rfl⟩, RFr.refl _ _⟩
  · have b2 : decide ((l.length : Int) < (mx.toNat : Int)) = false := decide_eq_false (by omega)
    simp only [rwE, rwV, List.drop_zero, if_true, if_neg hln]
    (simp (disch := first | decide | omega | (simp only [nx]; first | done | omega)) only [go_sem, ha, hb, max0, b2]; (repeat with_reducible refine aI ?_))
    have hsl : List.take mx.toNat (l.map bD) = (l.take mx.toNat).map bD := by rw [← List.map_take]
    have hle : ((mx.toNat : Nat) : Int) ≤ (l.length : Int) := by omega
    have hwd := eq_true (wd_c l)
    refine ddraw_mk 4 (by kernel_rfl) ?_
    simp (disch := first | decide | omega | (simp only [nx]; first | done | omega)) only [go_sem, ha, hb, hsl, hwd, hle]
    refine dapp_bytes (bs := []) (.inl ⟨rfl, rfl⟩) (by rw [List.length_take]; simp; omega) ?_
    have hbS : (b = S.next) = False := by simp; omega
    (simp (disch := first | decide | omega | (simp only [nx]; first | done | omega)) only [go_sem, ha, hb, hbS]; (repeat with_reducible refine aI ?_))
    refine ⟨rfl, ⟨_, rfl⟩, ⟨Nat.le_succ _, fun j o hj e => ?_⟩⟩
    have := hS.lt e
    rw [set_ne hj]
    simp only [St.grow, St.leave]
    rw [add_ne this, e]
theorem raw_x {S : St} {k : Nat} {l : List UInt8} {x : Rst} {mx : Int} (hm : IsI64 mx) (hk : k < S.next) (hr : EAt k l x S) (hi : x.1 ≤ l.length) (hl : l.length ≤ 1099511627776) :
    DCalls Tryz.prog 22 [.loc k 0, .v (.int .i64 mx)] S fun d T => (∃ o, d = .sl o ((rwV l x mx.toNat).map bD)) ∧ EAt k l (nxt x (rwE (l.drop x.1) mx.toNat)) T ∧ RFr k S T := by
  refine dcalls_inline mixed Tryz.func22 rfl (fun _ _ => by kernel_rfl) (rs := [.tmp 4]) rfl (by kernel_rfl) (fun hS => ?_)
  (simp (disch := first | decide | omega | (simp only [nx]; first | done | omega)) only [go_sem]; (repeat with_reducible refine aI ?_))
  obtain ⟨S0, hS0⟩ : ∃ S0 : St, S0 = (S.add (.box 3 [.v (.int .i64 mx)])).add (.box 22 [.sl .full []]) := ⟨_, rfl⟩
  have hn0 : S0.next = S.next + 2 := by rw [hS0]; rfl
  have k0 : ∀ j o, S.ob j = some o → S0.ob j = some o := fun j o e => by
    have := hS.lt e
    rw [hS0]
    rw [add_ne (by show j < S.next + 1; omega), add_ne this, e]
  have h0 : S0.ob (S.next + 1) = some (.box 22 [.sl .full []]) := by
    rw [hS0]; exact add_eq (S := S.add _)
  rw [← hS0]
  refine (field_x _ [] _ (fun T => (∃ d, (∃ o, d = .sl o ((rwV (l.drop x.1) (0, 0, 0) mx.toNat).map bD)) ∧ T.ob (S.next + 1) = some (.box 22 [d])) ∧ RFr (S.next + 1) S0 T) (rwE (l.drop x.1) mx.toNat) (by omega) (hr.keep k0) hi hl (fun s h => by have := rwE_ok h; rw [List.length_drop] at this; omega) (fun c h => rwE_er h) ?_ ?_).mono ?_
  · rintro T ⟨_, h2⟩
    obtain ⟨own, e, hb, _⟩ := hr
    exact ⟨h2.next, (h2.ob k _ (by omega) (k0 _ _ hb)).trans (k0 _ _ hb).symm⟩
  · intro _
    refine (raw1_x (a := S.next) hm (by omega) (by rw [hS0, add_ne (by show S.next < S.next + 1; omega), add_eq]) h0 (by rw [List.length_drop]; omega)).mono ?_
    rintro _ T ⟨rfl, ⟨o, h1⟩, h2⟩
    exact ⟨rfl, ⟨_, ⟨o, rfl⟩, h1⟩, h2⟩
  · rintro _ T' ⟨rfl, T, hc0, hc1, hk', hE, hF⟩
    have hFT : RFr (S.next + 1) S0 T := by
      by_cases hc : x.2.1 = 0
      · exact (hc0 hc).2
      · rw [hc1 hc]; exact RFr.refl _ _
    have hFS : RFr k S T' := ⟨by have := hFT.next; have := hF.next; omega, fun j o hj e => by have := hS.lt e; exact hF.ob j o hj (hFT.ob j o (by omega) (k0 j o e))⟩
    have hv : ∃ d, (∃ o, d = .sl o ((rwV l x mx.toNat).map bD)) ∧ T'.ob (S.next + 1) = some (.box 22 [d]) := by
      by_cases hc : x.2.1 = 0
      · obtain ⟨d, hd, hb⟩ := (hc0 hc).1
        refine ⟨d, ?_, hF.box _ _ _ (by omega) hb⟩
        rw [rwV_drop l, if_pos hc]; exact hd
      · rw [hc1 hc] at hF
        refine ⟨_, ?_, hF.box _ _ _ (by omega) h0⟩
        rw [rwV_drop, if_neg hc]; exact ⟨_, rfl⟩
    obtain ⟨dv, hdv, hv⟩ := hv
    clear hc0 hc1
    (simp (disch := first | decide | omega | (simp only [nx]; first | done | omega)) only [go_sem, hv]; (repeat with_reducible refine aI ?_))
    (repeat' refine And.intro ?_ ?_) <;> first | exact hFS | exact hE | exact hdv
def endX (l : List UInt8) (x : Rst) : Rst := if x.2.1 = 0 ∧ x.1 < l.length then (x.1, 2, (x.1 : Int)) else x
theorem end_x {S : St} {k : Nat} {l : List UInt8} {x : Rst} (hr : EAt k l x S) (hi : x.1 ≤ l.length) :
    DCalls Tryz.prog 27 [.loc k 0] S fun d T => ErrAt k (endX l x).2.1 (endX l x).2.2 T d ∧ RFr k S T := by
  have hr0 := hr
  obtain ⟨own, e, h1, h2⟩ := hr
  refine dcalls_inline mixed Tryz.func27 rfl (fun _ _ => by kernel_rfl) (rs := [.tmp 2]) rfl (by kernel_rfl) (fun hS => ?_)
  have hk := hS.lt h1
  by_cases hl : x.1 < l.length
  · have b1 : decide ((x.1 : Int) < (l.length : Int)) = true := decide_eq_true (by omega)
    (simp (disch := first | decide | omega | (simp only [nx]; first | done | omega)) only [go_sem, h1, b1]; (repeat with_reducible refine aI ?_))
    refine ddraw_mk 14 (by kernel_rfl) ?_
    (simp (disch := first | decide | omega | (simp only [nx]; first | done | omega)) only [go_sem, h1, b1]; (repeat with_reducible refine aI ?_))
    refine ddraw_any (fun S' => S'.ob k = some (.box 91 [.sl own (l.map bD), .v (.int .i64 (x.1 : Int)), e])) 13 (by (first | (simp (disch := first | decide | omega | (simp only [nx]; first | done | omega)) only [go_sem, h1]; first | done | rfl) | rfl)) (by kernel_rfl) ?_
    (refine s_take 0 rfl (by kernel_rfl) (by kernel_rfl) (v := ?v1) (fun S' hz => dquietR_of ?h1) <| s_take 1 rfl (by kernel_rfl) (by kernel_rfl) (v := ?v2) (fun S' hz => dquietR_of ?h2) <| s_take 2 rfl (by kernel_rfl) (by kernel_rfl) (v := ?v3) (fun S' hz => dquietR_of ?h3) <| s_take 3 rfl (by kernel_rfl) (by kernel_rfl) (v := ?v4) (fun S' hz => dquietR_of ?h4) <| s_take 4 rfl (by kernel_rfl) (by kernel_rfl) (v := ?v5) (fun S' hz => dquietR_of ?h5) <| s_take 5 rfl (by kernel_rfl) (by kernel_rfl) (v := ?v6) (fun S' hz => dquietR_of ?h6) <| s_take 6 rfl (by kernel_rfl) (by kernel_rfl) (v := ?v7) (fun S' hz => dquietR_of ?h7) <| s_take 7 rfl (by kernel_rfl) (by kernel_rfl) (v := ?v8) (fun S' hz => dquietR_of ?h8) <| s_take 8 rfl (by kernel_rfl) (by kernel_rfl) (v := ?v9) (fun S' hz => dquietR_of ?h9) <| ?k9; (case h1 | h2 | h3 | h4 | h5 | h6 | h7 | h8 | h9 => ((simp (disch := first | decide | omega | (simp only [nx]; first | done | omega)) only [go_sem, h1, hz]; (repeat with_reducible refine aI ?_)); first | done | exact rfl | omega)))
    (refine s_split [9] (by kernel_rfl) (by simp) ?_; intro j_ hj_; obtain rfl : j_ = 9 := (by simpa using hj_); clear hj_; refine s_op rfl ?_; (simp (disch := first | decide | omega | (simp only [nx]; first | done | omega)) only [go_sem, h1]; (repeat with_reducible refine aI ?_)))
    refine wrap_at ?_
    obtain ⟨S1, hS1⟩ : ∃ S1 : St, S1 = S.add (.box 104 [.v (.int .i64 (x.1 : Int)), .ifc 56 (.v (.int .i64 2))]) := ⟨_, rfl⟩
    have hW1 : S1.WF := by rw [hS1]; exact hS.add _
    have hk1 : S1.ob k = some (.box 91 [.sl own (l.map bD), .v (.int .i64 (x.1 : Int)), e]) := by rw [hS1, add_ne hk, h1]
    have hb1 : S1.ob S.next = some (.box 104 [.v (.int .i64 (x.1 : Int)), erD 2]) := by rw [hS1]; exact add_eq
    have he1 : ErrAt k x.2.1 x.2.2 S1 e := h2.keep fun j o hj e => by have := hS.lt e; rw [hS1, add_ne this, e]
    rw [← hS1]
    refine ⟨hk1, ?_⟩
    have heo : e.okCell = true := by rcases h2 with ⟨_, rfl⟩ | ⟨_, b, _, rfl, _⟩ <;> rfl
    have hew : e.cells.length = 1 := by rcases h2 with ⟨_, rfl⟩ | ⟨_, b, _, rfl, _⟩ <;> rfl
    (refine s_take 10 rfl (by kernel_rfl) (by kernel_rfl) (v := ?v10) (fun S' hz => dquietR_of ?h10) ?k10; (case h10 => ((simp (disch := first | decide | omega | (simp only [nx]; first | done | omega)) only [go_sem, hk1, heo, hew, hz]; (repeat with_reducible refine aI ?_)); first | done | exact rfl | omega)))
    have hf : firstD [e, atD S.next] = if x.2.1 = 0 then atD S.next else e := by
      rcases h2 with ⟨h2, rfl⟩ | ⟨h2, b, h3, rfl, h4⟩
      · rw [if_pos h2]; rfl
      · rw [if_neg h2]; rfl
    have hfa : DAt Tryz.prog 67 [.sl .full [e, atD S.next]] S1 (if x.2.1 = 0 then atD S.next else e) := by
      rw [← hf]
      refine first_at .full [e, atD S.next] ?_ ?_ (fun _ => ?_) (by simp)
      · intro d hd
        simp only [List.mem_cons, List.not_mem_nil, or_false] at hd
        rcases hd with rfl | rfl
        · rcases h2 with ⟨h2, rfl⟩ | ⟨h2, b, h3, rfl, h4⟩
          · exact .inl rfl
          · exact .inr ⟨_, _, rfl⟩
        · exact .inr ⟨_, _, rfl⟩
      · intro d hd
        simp only [List.mem_cons, List.not_mem_nil, or_false] at hd
        rcases hd with rfl | rfl
        · rcases h2 with ⟨h2, rfl⟩ | ⟨h2, b, h3, rfl, h4⟩ <;> rfl
        · rfl
      · rw [hf]
        split
        · exact hW1.lt hb1
        · rename_i hc
          rcases he1 with ⟨h2', rfl⟩ | ⟨h2', b, h3, rfl, h4⟩
          · exact absurd h2' hc
          · exact hW1.lt h4
    (refine s_split [11] (by kernel_rfl) (by simp) ?_; intro j_ hj_; obtain rfl : j_ = 11 := (by simpa using hj_); clear hj_; refine s_op rfl ?_; (simp (disch := first | decide | omega | (simp only [nx]; first | done | omega)) only [go_sem, hk1]; (repeat with_reducible refine aI ?_)))
    refine hfa.go ?_
    refine ⟨hk1, ?_⟩
    (refine s_take 12 rfl (by kernel_rfl) (by kernel_rfl) (v := ?v11) (fun S' hz => dquietR_of ?h11) ?k11; (case h11 => ((simp (disch := first | decide | omega | (simp only [nx]; first | done | omega)) only [go_sem, hk1, hz]; (repeat with_reducible refine aI ?_)); first | done | exact rfl | omega)))
    (refine s_done (by kernel_rfl) ?_; (simp (disch := first | decide | omega | (simp only [nx]; first | done | omega)) only [go_sem, hk1]; (repeat with_reducible refine aI ?_)))
    refine ⟨?_, by rw [hS1]; exact (RFr.refl k S).add hS _⟩
    unfold endX
    by_cases hc : x.2.1 = 0
    · rw [if_pos hc, if_pos ⟨hc, hl⟩]
      exact .inr ⟨by simp, S.next, by omega, rfl, hb1⟩
    · rw [if_neg hc, if_neg fun h => hc h.1]
      exact he1
  · have b1 : decide ((x.1 : Int) < (l.length : Int)) = false := decide_eq_false (by omega)
    (simp (disch := first | decide | omega | (simp only [nx]; first | done | omega)) only [go_sem, h1, b1]; (repeat with_reducible refine aI ?_))
    refine ddraw_mk 14 (by kernel_rfl) ?_
    (simp (disch := first | decide | omega | (simp only [nx]; first | done | omega)) only [go_sem, h1, b1]; (repeat with_reducible refine aI ?_))
    refine (err_x hr0).mono ?_
    rintro d T ⟨hd, rfl⟩
    (simp (disch := first | decide | omega | (simp only [nx]; first | done | omega)) only [go_sem]; (repeat with_reducible refine aI ?_))
    unfold endX
    rw [if_neg fun h => hl h.2]
    exact ⟨hd, RFr.refl _ _⟩
end
end Go.Proofs.YtonncfminojejaaGreatDoor
