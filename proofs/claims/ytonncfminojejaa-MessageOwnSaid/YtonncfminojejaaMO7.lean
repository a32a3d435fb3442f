/- MessageOwn answers true for any names and any entries, and leaves its arguments as they were. Conditions: none but the statement's own. -/
import Derived.Test.YtonncfminojejaaMO6
import Derived.Test.YtonncfminojejaaRows
set_option linter.unusedVariables false
set_option linter.unusedSimpArgs false
namespace Go.Proofs.Ytonncfminojejaa
open Go.RowKit
structure GrpG (s : List (List UInt8)) (i lo : Nat) (es : List D) (T : St) : Prop where
  ex : ∃ es0 tail, es = es0 ++ tail ∧ es0.map D.frz = (List.range (i / 8)).map (fun j => encMs (giveM (chunk8 s j))) ∧ ((i % 8 = 0 ∧ tail = []) ∨ (0 < i % 8 ∧ ∃ g, tail = [encX 3 (.sl .full []) (.sl (.row g) (((s.drop (8 * (i / 8))).take (i % 8)).map encB))] ∧ T.ob g = some (.row 29 (i % 8)) ∧ lo ≤ g))
  w : ∀ d ∈ es, d.width = 68
theorem GrpG.len {s : List (List UInt8)} {i lo : Nat} {es : List D} {T : St} (h : GrpG s i lo es T) : es.length = (i + 7) / 8 := by
  obtain ⟨es0, tail, rfl, h1, h2⟩ := h.ex
  have h3 := congrArg List.length h1
  rw [List.length_map, List.length_map, List.length_range] at h3
  rw [List.length_append, h3]
  rcases h2 with ⟨h4, rfl⟩ | ⟨h4, g, rfl, _⟩
  · rw [List.length_nil]; omega
  · rw [List.length_singleton]; omega
theorem GrpG.fin {s : List (List UInt8)} {lo : Nat} {es : List D} {T : St} (h : GrpG s s.length lo es T) : es.map D.frz = (chunks8 s).map fun l => encMs (giveM l) := by
  obtain ⟨es0, tail, rfl, h1, h2⟩ := h.ex
  rw [List.map_append, h1]
  unfold chunks8
  rw [List.map_map]
  rcases h2 with ⟨h4, rfl⟩ | ⟨h4, g, rfl, _⟩
  · rw [show (s.length + 7) / 8 = s.length / 8 by omega]
    simp [Function.comp_def]
  · rw [show (s.length + 7) / 8 = s.length / 8 + 1 by omega, List.range_succ, List.map_append]
    congr 1
    have e : (s.drop (8 * (s.length / 8))).take (s.length % 8) = chunk8 s (s.length / 8) := by
      rw [chunk8, List.take_of_length_le (by rw [List.length_drop]; omega), List.take_of_length_le (by rw [List.length_drop]; omega)]
    rw [e]
    simp only [List.map_cons, List.map_nil, Function.comp, frz_encX3]
theorem GrpG.next {s : List (List UInt8)} {i lo g : Nat} {es0 : List D} {T : St} (hi : i < s.length) (h1 : es0.map D.frz = (List.range (i / 8)).map (fun j => encMs (giveM (chunk8 s j)))) (hw : ∀ d ∈ es0, d.width = 68) (hg : T.ob g = some (.row 29 (i % 8 + 1))) (hl : lo ≤ g) :
    GrpG s (i + 1) lo (es0 ++ [encX 3 (.sl .full []) (.sl (.row g) (((s.drop (8 * (i / 8))).take (i % 8)).map encB ++ [encB s[i]]))]) T := by
  have e : ((s.drop (8 * (i / 8))).take (i % 8)).map encB ++ [encB s[i]] = ((s.drop (8 * (i / 8))).take (i % 8 + 1)).map encB := by
    have hlt : i % 8 < (s.drop (8 * (i / 8))).length := by rw [List.length_drop]; omega
    rw [List.take_succ_eq_append_getElem hlt, List.map_append, List.getElem_drop]
    have : 8 * (i / 8) + i % 8 = i := by omega
    simp [this]
  rw [e]
  refine ⟨?_, fun d hd => ?_⟩
  · by_cases h7 : i % 8 = 7
    · refine ⟨es0 ++ [encX 3 (.sl .full []) (.sl (.row g) (((s.drop (8 * (i / 8))).take (i % 8 + 1)).map encB))], [], by simp, ?_, .inl ⟨by omega, rfl⟩⟩
      rw [List.map_append, h1, show (i + 1) / 8 = i / 8 + 1 by omega, List.range_succ, List.map_append]
      congr 1
      have e : (s.drop (8 * (i / 8))).take (i % 8 + 1) = chunk8 s (i / 8) := by rw [chunk8, h7]
      rw [e]
      simp only [List.map_cons, List.map_nil, frz_encX3]
    · refine ⟨es0, _, rfl, ?_, .inr ⟨by omega, g, ?_, ?_, hl⟩⟩
      · rw [show (i + 1) / 8 = i / 8 by omega]; exact h1
      · rw [show (i + 1) / 8 = i / 8 by omega, show (i + 1) % 8 = i % 8 + 1 by omega]
      · rw [show (i + 1) % 8 = i % 8 + 1 by omega]; exact hg
  · rcases List.mem_append.1 hd with h | h
    · exact hw d h
    · obtain rfl := List.mem_singleton.1 h; exact width_encX _ _ _
theorem dapp_es {S : St} {ty : TypeId} {own own2 : Own} {es : List D} {o : D} {K : D → St → Prop} (h : (own = .full ∧ es = []) ∨ ∃ g, own = .row g ∧ S.ob g = some (.row 29 es.length)) (hl : es.length ≤ 1000000) (hw : ∀ d ∈ es, d.width = 1) (ho : o.width = 1)
    (k : K (.sl (.row S.next) (es ++ [o])) (S.grow own 29 (es.length + 1))) : dapp Try.prog S 24 24 ty (.sl own es) (.sl own2 [o]) K := by
  refine dapp_row ?_
  simp only [dappend, elEs, zeEs, byEs, szEs, true_and, Option.isSome_some, List.length_cons, List.length_nil]
  refine ⟨hw, fun d hd => by obtain rfl := List.mem_singleton.1 hd; exact ho, ?_, by omega, by omega, k⟩
  rcases h with ⟨rfl, rfl⟩ | ⟨g, rfl, h⟩
  · trivial
  · exact h
theorem filt_at {l : List (List UInt8)} {i : Nat} (h : i < l.length) (hok : okE l[i] = true) : ∃ h2 : ((l.take i).filter okE).length < (l.filter okE).length, (l.filter okE)[((l.take i).filter okE).length] = l[i] := by
  have e : l.filter okE = (l.take i).filter okE ++ l[i] :: (l.drop (i + 1)).filter okE := by
    conv => lhs; rw [← List.take_append_drop i l, List.drop_eq_getElem_cons h, List.filter_append, List.filter_cons, if_pos hok]
  refine ⟨by rw [e, List.length_append, List.length_cons]; omega, ?_⟩
  have : (l.filter okE)[((l.take i).filter okE).length]? = some l[i] := by
    rw [e, List.getElem?_append_right (Nat.le_refl _), Nat.sub_self]; rfl
  exact (List.getElem?_eq_some_iff.1 this).2
section
set_option maxRecDepth 200000
set_option maxHeartbeats 8000000
theorem rgives_d (ownA : Own) (l : List (List UInt8)) (hl : l.length ≤ 1000000) : DPure Try.prog 16 [.sl ownA (l.map encB)] (.sl .no ((givesM l).map encMs)) := by
  refine dpure_thaw (closed_Ms _) fun S hS => ?_
  refine dcalls_inline mixed Try.func16 rfl (fun _ _ => by kernel_rfl) (rs := [.tmp 2]) rfl (by kernel_rfl) (fun hS => ?_)
  (simp (disch := first | decide | omega | (simp only [nx]; first | done | omega)) only [go_sem]; (repeat with_reducible refine aI ?_))
  obtain ⟨s, hs⟩ : ∃ s, s = l.filter okE := ⟨_, rfl⟩
  refine dloop_up (fun t => List.contains [3, 4, 5, 6, 7, 8, 9, 10, 11, 12, 13, 14, 15, 16, 17, 18, 19, 20, 21, 22, 23, 24, 25, 26, 27, 28, 29, 30, 31, 32, 33, 34, 35, 36, 37, 38, 39, 40, 41, 42, 43, 44, 45, 46, 47, 48, 49, 50, 51, 52, 53] t) (by kernel_rfl) hS l.length (fun i q T => i ≤ l.length ∧ q 5 = .v (.int .i64 ((i : Nat) : Int)) ∧ q 4 = .v (.int .i64 ((((l.take i).filter okE).length : Nat) : Int)) ∧ S.Sub T ∧ ∃ d es, q 3 = d ∧ OwnD Try.prog T 26 es d ∧ (∀ k n c, d = .win k 0 n c → S.next ≤ k) ∧ GrpG s ((l.take i).filter okE).length S.next es T)
    ⟨by omega, by (first | (simp (disch := first | decide | omega | (simp only [nx]; first | done | omega)) only [go_sem]; first | done | rfl) | rfl), by (first | (simp (disch := first | decide | omega | (simp only [nx]; first | done | omega)) only [go_sem]; first | done | rfl) | rfl), St.Sub.refl S, _, [], by (first | (simp (disch := first | decide | omega | (simp only [nx]; first | done | omega)) only [go_sem]; first | done | rfl) | rfl), .inl ⟨rfl, rfl⟩, (fun _ _ _ e => by cases e), (by rw [List.take_zero]; exact ⟨⟨[], [], rfl, rfl, .inl ⟨rfl, rfl⟩⟩, fun _ h => by cases h⟩)⟩ ?_
  rintro i q T hT hg ⟨le, q5, q4, hsub, d, es, q3, hd, hdk, hgr⟩
  (have q0 := hg 0 rfl; have q2 := hg 2 rfl; simp (disch := first | decide | omega | (simp only [nx]; first | done | omega)) only [go_sem] at q0 q2; clear hg)
  by_cases hlt : i < l.length
  · have b1 : decide ((i : Int) < (l.length : Int)) = true := decide_eq_true (by omega)
    have w1 : IntKind.i64.wrap ((i : Int) + 1) = ((i + 1 : Nat) : Int) := IntWalk.i64_in _ ⟨by omega, by omega⟩
    have hlen := hgr.len
    have hle := okE_len l i
    have ce := cells_encB l[i]
    have skip : okE l[i] = false → (l.take (i + 1)).filter okE = (l.take i).filter okE := fun h => by rw [okE_take hlt, h]; simp
    by_cases h0 : l[i].length < 1
    · have b2 : decide ((l[i].length : Int) < 1) = true := decide_eq_true (by omega)
      have hok : okE l[i] = false := by rw [okE, badE, decide_eq_true (by omega : l[i].length = 0)]; rfl
      (simp (disch := first | decide | omega | (simp only [nx]; first | done | omega)) only [go_sem, q0, q3, q4, q5, b1, b2, hlt, ce, w1]; (repeat with_reducible refine aI ?_))
      refine ⟨by omega, _, fun _ _ h => h, by omega, by (first | (simp (disch := first | decide | omega | (simp only [nx]; first | done | omega)) only [go_sem, w1]; first | done | rfl) | rfl), by rw [skip hok]; (first | (simp (disch := first | decide | omega | (simp only [nx]; first | done | omega)) only [go_sem, q4]; first | done | rfl) | rfl), hsub, d, es, by (first | (simp (disch := first | decide | omega | (simp only [nx]; first | done | omega)) only [go_sem, q3]; first | done | rfl) | rfl), hd, hdk, by rw [skip hok]; exact hgr⟩
    have b2 : decide ((l[i].length : Int) < 1) = false := decide_eq_false (by omega)
    by_cases h4 : l[i].length > 4096
    · have b3 : decide ((l[i].length : Int) > 4096) = true := decide_eq_true (by omega)
      have hok : okE l[i] = false := by rw [okE, badE, decide_eq_true (by omega : 4096 < l[i].length), Bool.or_true]; rfl
      (simp (disch := first | decide | omega | (simp only [nx]; first | done | omega)) only [go_sem, q0, q3, q4, q5, b1, b2, b3, hlt, ce, w1]; (repeat with_reducible refine aI ?_))
      refine ⟨by omega, _, fun _ _ h => h, by omega, by (first | (simp (disch := first | decide | omega | (simp only [nx]; first | done | omega)) only [go_sem, w1]; first | done | rfl) | rfl), by rw [skip hok]; (first | (simp (disch := first | decide | omega | (simp only [nx]; first | done | omega)) only [go_sem, q4]; first | done | rfl) | rfl), hsub, d, es, by (first | (simp (disch := first | decide | omega | (simp only [nx]; first | done | omega)) only [go_sem, q3]; first | done | rfl) | rfl), hd, hdk, by rw [skip hok]; exact hgr⟩
    have b3 : decide ((l[i].length : Int) > 4096) = false := decide_eq_false (by omega)
    have hok : okE l[i] = true := by rw [okE, badE, decide_eq_false (by omega), decide_eq_false (by omega)]; rfl
    have e2 : (l.take (i + 1)).filter okE = (l.take i).filter okE ++ [l[i]] := by rw [okE_take hlt, if_pos hok]
    obtain ⟨hn1, hn2⟩ := filt_at hlt hok
    obtain ⟨n, hn⟩ : ∃ n, n = ((l.take i).filter okE).length := ⟨_, rfl⟩
    have hn1' : n < s.length := by rw [hn, hs]; exact hn1
    have hn2' : s[n] = l[i] := by subst hs; subst hn; exact hn2
    have hn' : ((l.take (i + 1)).filter okE).length = n + 1 := by rw [e2, List.length_append, ← hn]; rfl
    rw [← hn] at q4 hgr hle hlen
    clear hn1 hn2
    (simp (disch := first | decide | omega | (simp only [nx]; first | done | omega)) only [go_sem, q0, q3, q4, q5, b1, b2, b3, hlt, ce, bin_rem8]; (repeat with_reducible refine aI ?_))
    refine dIf_cut (fun f' S' => f' 5 = .v (.int .i64 ((i : Nat) : Int)) ∧ f' 4 = .v (.int .i64 ((n : Nat) : Int)) ∧ f' 0 = .sl ownA (l.map encB) ∧ S'.WF ∧ S.Sub S' ∧ ∃ k c es0 o zs, f' 3 = .win k 0 (es0.length + 1) c ∧ S.next ≤ k ∧ S'.ob k = some (.box 26 (flat (es0 ++ [encX 3 (.sl .full []) (.sl o (((s.drop (8 * (n / 8))).take (n % 8)).map encB))]) ++ zs)) ∧
      (flat (es0 ++ [encX 3 (.sl .full []) (.sl o (((s.drop (8 * (n / 8))).take (n % 8)).map encB))]) ++ zs).length = c * 68 ∧ (∀ d ∈ es0, d.width = 68) ∧ es0.map D.frz = (List.range (n / 8)).map (fun j => encMs (giveM (chunk8 s j))) ∧ ((o = .full ∧ n % 8 = 0) ∨ ∃ g, o = .row g ∧ S'.ob g = some (.row 29 (n % 8)) ∧ S.next ≤ g)) ?_ ?_
    · refine dIf_both (fun hb => ?_) (fun hb => ?_)
      · have h8 : n % 8 = 0 := by have := beq_iff_eq.1 hb; omega
        have ei : ((s.drop (8 * (n / 8))).take (n % 8)).map encB = [] := by rw [h8]; simp
        obtain ⟨es0, tail, rfl, e1, e2⟩ := hgr.ex
        obtain rfl : tail = [] := by rcases e2 with e2 | e2; exact e2.2; omega
        rw [List.append_nil] at hd hlen hgr
        (simp (disch := first | decide | omega | (simp only [nx]; first | done | omega)) only [go_sem, q3, agg_X3, width_encX, okCell_encX, cl_encX]; (repeat with_reducible refine aI ?_))
        refine dapp_ownD (es2 := [encX 3 (.sl .full []) (.sl .full [])]) elMs (by rw [elMs]; rfl) zeMs zoMs hd (by rw [szMs]; exact hgr.w) (by rw [szMs]; intro d hd; obtain rfl := List.mem_singleton.1 hd; exact width_encX 3 (.sl .full []) (.sl .full [])) (by simp only [List.length_singleton]; omega) (by simp only [List.length_singleton, byMs]; omega) fun c' zs' hz => ?_
        rw [szMs] at hz
        have hc' : 0 < c' := by
          have h1 : (flat (es0 ++ [encX 3 (.sl .full []) (.sl .full [])])).length = (es0.length + 1) * 68 := by
            rw [dflat_length (z := 68), List.length_append]; rfl
            intro d hd
            rcases List.mem_append.1 hd with h | h
            · exact hgr.w d h
            · obtain rfl := List.mem_singleton.1 h; exact width_encX _ _ _
          rw [List.length_append, h1] at hz
          omega
        obtain ⟨l1, l2, l3⟩ := left_ok hS hT hsub hd hdk
        rw [ownOb_box hc']
        (simp (disch := first | decide | omega | (simp only [nx]; first | done | omega)) only [go_sem, q0, q3, q4, q5]; (repeat with_reducible refine aI ?_))
        rw [ei]
        exact ⟨l2.add _, l1.add hS _, T.next, c', es0, .full, zs', rfl, hsub.next, by (first | (simp (disch := first | decide | omega | (simp only [nx]; first | done | omega)) only [go_sem, l3]; first | done | rfl) | rfl), hz, hgr.w, e1, .inl ⟨rfl, h8⟩⟩
      · have h8 : 0 < n % 8 := by
          have := beq_eq_false_iff_ne.1 hb
          omega
        obtain ⟨es0, tail, rfl, e1, e2⟩ := hgr.ex
        obtain ⟨_, g, rfl, hg, hgl⟩ := e2.resolve_left (by omega)
        (simp (disch := first | decide | omega | (simp only [nx]; first | done | omega)) only [go_sem, q0, q3, q4, q5]; (repeat with_reducible refine aI ?_))
        rcases hd with ⟨hn, _⟩ | ⟨k, c, zs, rfl, hk, hz, hkn⟩
        · exact absurd hn (by simp)
        rw [szMs] at hz
        have hc' : 0 < c := by
          rw [List.length_append, dflat_length (z := 68) hgr.w, List.length_append, List.length_singleton] at hz
          omega
        rw [ownOb_box hc'] at hk
        exact ⟨k, c, es0, .row g, zs, by rw [List.length_append]; rfl, hdk _ _ _ rfl, hk, hz, fun d hd => hgr.w d (List.mem_append_left _ hd), e1, .inr ⟨g, rfl, hg, hgl⟩⟩
    · rintro f' T' ⟨f5, f4, f0, hT', hsub', k, c, es0, o, zs, f3, hk0, hk, hz, hw, hfz, ho⟩
      have hel : es0.length = n / 8 := by have := congrArg List.length hfz; simpa using this
      have wk : IntKind.i64.wrap (((es0.length + 1 : Nat) : Int) - 1) = (es0.length : Int) := (IntWalk.i64_in _ ⟨by omega, by omega⟩).trans (by omega)
      have wn : IntKind.i64.wrap ((n : Int) + 1) = ((n + 1 : Nat) : Int) := IntWalk.i64_in _ ⟨by omega, by omega⟩
      generalize hids : ((s.drop (8 * (n / 8))).take (n % 8)).map encB = ids at *
      have hil : ids.length = n % 8 := by rw [← hids, List.length_map, List.length_take, List.length_drop]; omega
      have hiw : ∀ d ∈ ids, d.width = 1 := by rw [← hids]; intro d hd; obtain ⟨m, _, rfl⟩ := List.mem_map.1 hd; exact width_encB m
      have hkl := hT'.lt hk
      have hgx := getX1 3 hw (.sl .full []) (.sl o ids) zs
      have hln : es0.length * 68 + 68 ≤ c * 68 := by
        rw [flatX, List.length_append, flatX_len 3 hw] at hz
        simp only [List.length_cons] at hz
        omega
      have ee : D.sl .no (l[i].map bD) = encB l[i] := rfl
      (simp (disch := first | decide | omega | (simp only [nx]; first | done | omega)) only [go_sem, f0, f3, f4, f5, wk, wn]; (repeat with_reducible refine aI ?_))
      refine ddraw_any (fun S' => S'.ob k = some (.box 26 (flat (es0 ++ [encX 3 (.sl .full []) (.sl o ids)]) ++ zs))) 15 (by (first | (simp (disch := first | decide | omega | (simp only [nx]; first | done | omega)) only [go_sem, hk]; first | done | rfl) | rfl)) (by kernel_rfl) ?_
      (refine s_take 0 rfl (by kernel_rfl) (by kernel_rfl) (v := ?v1) (fun S' hz => dquietR_of ?h1) <| s_take 1 rfl (by kernel_rfl) (by kernel_rfl) (v := ?v2) (fun S' hz => dquietR_of ?h2) <| s_take 2 rfl (by kernel_rfl) (by kernel_rfl) (v := ?v3) (fun S' hz => dquietR_of ?h3) <| s_take 3 rfl (by kernel_rfl) (by kernel_rfl) (v := ?v4) (fun S' hz => dquietR_of ?h4) <| s_take 4 rfl (by kernel_rfl) (by kernel_rfl) (v := ?v5) (fun S' hz => dquietR_of ?h5) <| s_take 5 rfl (by kernel_rfl) (by kernel_rfl) (v := ?v6) (fun S' hz => dquietR_of ?h6) <| s_take 6 rfl (by kernel_rfl) (by kernel_rfl) (v := ?v7) (fun S' hz => dquietR_of ?h7) <| ?k7; (case h1 | h2 | h3 | h4 | h5 | h6 | h7 => ((simp (disch := first | decide | omega | (simp only [nx]; first | done | omega)) only [go_sem, f0, f3, f4, f5, hgx, hz]; (repeat with_reducible refine aI ?_)); first | done | exact rfl | omega)))
      (refine s_take 7 rfl (by kernel_rfl) (by kernel_rfl) (v := ?v8) (fun S' hz => dquietR_of ?h8) <| s_take 8 rfl (by kernel_rfl) (by kernel_rfl) (v := ?v9) (fun S' hz => dquietR_of ?h9) <| s_take 9 rfl (by kernel_rfl) (by kernel_rfl) (v := ?v10) (fun S' hz => dquietR_of ?h10) <| s_take 10 rfl (by kernel_rfl) (by kernel_rfl) (v := ?v11) (fun S' hz => dquietR_of ?h11) <| s_take 11 rfl (by kernel_rfl) (by kernel_rfl) (v := ?v12) (fun S' hz => dquietR_of ?h12) <| ?k12; (case h8 | h9 | h10 | h11 | h12 => ((simp (disch := first | decide | omega | (simp only [nx]; first | done | omega)) only [go_sem, f0, f3, f4, f5, hgx, hlt, ce, hz]; (repeat with_reducible refine aI ?_)); first | done | exact rfl | omega)))
      (refine s_split [12] (by kernel_rfl) (by simp) ?_; intro j_ hj_; obtain rfl : j_ = 12 := (by simpa using hj_); clear hj_; refine s_op rfl ?_; (simp (disch := first | decide | omega | (simp only [nx]; first | done | omega)) only [go_sem, hgx]; (repeat with_reducible refine aI ?_)))
      have hor : (o = .full ∧ ids = []) ∨ ∃ g, o = .row g ∧ T'.ob g = some (.row 29 ids.length) := by
        rcases ho with ⟨h1, h2⟩ | ⟨g, h1, h2, _⟩
        · exact .inl ⟨h1, List.eq_nil_of_length_eq_zero (by omega)⟩
        · exact .inr ⟨g, h1, by rw [hil]; exact h2⟩
      refine dapp_es hor (by omega) hiw (width_encB l[i]) ?_
      have hgk : (T'.grow o 29 (ids.length + 1)).ob k = some (.box 26 (flat (es0 ++ [encX 3 (.sl .full []) (.sl o ids)]) ++ zs)) := by
        have h3 : k ≠ T'.next := by omega
        rcases ho with ⟨rfl, _⟩ | ⟨g, rfl, h2, _⟩
        · simp [St.grow, St.leave, St.add, h3, hk]
        · have h4 : k ≠ g := fun e => by rw [e, h2] at hk; cases hk
          simp [St.grow, St.leave, St.add, St.drop, h3, h4, hk]
      have hgr2 : (T'.grow o 29 (ids.length + 1)).ob T'.next = some (.row 29 (ids.length + 1)) := by
        rcases ho with ⟨rfl, _⟩ | ⟨g, rfl, h2, _⟩ <;> simp [St.grow, St.leave, St.add, St.drop]
      have hgs : S.Sub (T'.grow o 29 (ids.length + 1)) ∧ (T'.grow o 29 (ids.length + 1)).next = T'.next + 1 := by
        rcases ho with ⟨rfl, _⟩ | ⟨g, rfl, h2, hl⟩
        · exact ⟨hsub'.add hS _, rfl⟩
        · exact ⟨(hsub'.drop hS hl).add hS _, rfl⟩
      generalize T'.grow o 29 (ids.length + 1) = T2 at *
      refine ⟨hgk, ?_⟩
      (refine s_take 13 rfl (by kernel_rfl) (by kernel_rfl) (v := ?v13) (fun S' hz => dquietR_of ?h13) <| s_take 14 rfl (by kernel_rfl) (by kernel_rfl) (v := ?v14) (fun S' hz => dquietR_of ?h14) <| ?k14; (case h13 | h14 => ((simp (disch := first | decide | omega | (simp only [nx]; first | done | omega)) only [go_sem, f0, f3, f4, f5, hz]; (repeat with_reducible refine aI ?_)); first | done | exact rfl | omega)))
      have hsx := setX1 3 hw (.sl .full []) (.sl o ids) (.sl (.row T'.next) (ids ++ [encB l[i]])) zs
      (refine s_done (by kernel_rfl) ?_; (simp (disch := first | decide | omega | (simp only [nx]; first | done | omega)) only [go_sem, hgk, f0, f3, f4, f5, w1, ee, hsx]; (repeat with_reducible refine aI ?_)))
      refine ⟨by omega, _, fun _ _ h => h, by omega, by (first | (simp (disch := first | decide | omega | (simp only [nx]; first | done | omega)) only [go_sem, w1]; first | done | rfl) | rfl), by rw [hn']; (first | (simp (disch := first | decide | omega | (simp only [nx]; first | done | omega)) only [go_sem, wn]; first | done | rfl) | rfl), ?_, _, es0 ++ [encX 3 (.sl .full []) (.sl (.row T'.next) (ids ++ [encB l[i]]))], by (first | (simp (disch := first | decide | omega | (simp only [nx]; first | done | omega)) only [go_sem, f3]; first | done | rfl) | rfl), .inr ⟨k, c, zs, by rw [List.length_append]; rfl, ?_, ?_, ?_⟩, ?_, ?_⟩
      · exact hgs.1.set hS hk0 _
      · show (T2.set k _).ob k = _
        rw [ownOb_box (by omega)]
        simp [St.set]
      · rw [szMs]
        rw [flatX] at hz ⊢
        simp only [List.length_append, List.length_cons] at hz ⊢
        exact hz
      · show k < T2.next
        omega
      · intro k2 n2 c2 e
        injection e with e
        omega
      · rw [hn']
        have hh := GrpG.next (T := T2.set k (.box 26 (flat (es0 ++ [encX 3 (.sl .full []) (.sl (.row T'.next) (ids ++ [encB l[i]]))]) ++ zs))) (g := T'.next) (lo := S.next) hn1' hfz hw ?_ hsub'.next
        · rw [hids, hn2'] at hh; exact hh
        · rw [hil] at hgr2
          have : T'.next ≠ k := by omega
          simp [St.set, this, hgr2]
  · have b1 : decide ((i : Int) < (l.length : Int)) = false := decide_eq_false (by omega)
    have et : l.take i = l := List.take_of_length_le (by omega)
    rw [et] at q4 hgr
    rw [← hs] at hgr
    (simp (disch := first | decide | omega | (simp only [nx]; first | done | omega)) only [go_sem, q0, q3, q4, q5, b1]; (repeat with_reducible refine aI ?_))
    have hfin : frzL es = (givesM l).map encMs := by
      rw [frzL_map, hgr.fin, givesM, ← hs, List.map_map]; rfl
    rcases hd with ⟨rfl, rfl⟩ | ⟨k, c, zs, rfl, hk, hz, hkn⟩
    · exact ⟨T, _, Thaw.refl _ _ _, by rw [← hfin]; rfl, hsub⟩
    · refine ⟨_, .sl .no es, thaw_own hk (ownOb_len (by rw [szMs]; exact hgr.w) (by rw [szMs]; omega) hz) (by rw [szMs]; omega) (by rw [szMs]; exact hgr.w) (by simp only [D.thaw, Nat.beq_refl, Bool.and_self, cond_true]), by rw [← hfin]; rfl, hsub.drop hS (hdk _ _ _ rfl)⟩
end
end Go.Proofs.Ytonncfminojejaa

namespace Go.Proofs.Ytonncfminojejaa
open Go.RowKit
theorem dapp_rowW {P : Program} {S : St} {t tx ty e : TypeId} (he : elT P t = some e) (hx : (elT P tx).isSome = true) (hz : zeroT P e = true) {own : Own} {es es2 : List D} {k off n c : Nat} {K : D → St → Prop} (hs : SrcOk S (szOf P e) (.win k off n c) es2.length (flat es2)) (hw1 : ∀ d ∈ es, d.width = szOf P e) (hw2 : ∀ d ∈ es2, d.width = szOf P e)
    (hown : own = .full ∨ ∃ g, own = .row g ∧ S.ob g = some (.row e es.length)) (hlen : es.length + es2.length ≤ 140737488355328) (hby : (es.length + es2.length) * bytesOf P e ≤ 140737488355328) (hK : K (.sl (.row S.next) (es ++ es2)) (S.grow own e (es.length + es2.length))) : dapp P S t tx ty (.sl own es) (.win k off n c) K := by
  refine dapp_srcW fun base η w vs hM hr => ?_
  simp only [RepL] at hr
  obtain ⟨x1, _, rfl, r1, x2, _, rfl, r2, rfl⟩ := hr
  obtain ⟨us, ⟨⟨A, c', hv, hle, hA⟩, hl, h1⟩, hru⟩ := srcOk_at hM hs r2
  have hsrc : Src P (szOf P e) tx x2 es2.length us w := by
    obtain ⟨e', he'⟩ := Option.isSome_iff_exists.1 hx
    have hk := elT_spec he'
    subst hv
    rcases hA with ⟨rfl, h0⟩ | ⟨a, rfl, hc⟩
    · rw [h0, Nat.zero_mul] at hl
      have hu0 : us = [] := List.eq_nil_of_length_eq_zero hl
      rw [h0, hu0]
      exact Src.ofNil w hk c'
    · exact Src.ofSlice w hk a _ c' us hl hc h1
  obtain ⟨v', η', w', k1, k2, k3⟩ := append_stepS (ty := ty) hM r1 hsrc hru h1 he hz hw1 hw2 hown hlen hby
  exact ⟨_, _, η', v', w', k1, hK, k3, k2⟩
theorem flat_bD2 : ∀ l : List UInt8, flat (l.map bD) = l.map bD
  | [] => rfl
  | b :: l => by rw [List.map_cons, flat_cons, flat_bD2 l]; rfl
theorem dapp_bytesW {S : St} {ty : TypeId} {own : Own} {bs xs : List UInt8} {j off c : Nat} {K : D → St → Prop} (hs : SrcOk S 1 (.win j off xs.length c) xs.length (xs.map bD)) (h : (own = .full ∧ bs = []) ∨ ∃ g, own = .row g ∧ S.ob g = some (.row 5 bs.length)) (hl : bs.length + xs.length ≤ 1099511627776)
    (k : K (.sl (.row S.next) ((bs ++ xs).map bD)) (S.grow own 5 (bs.length + xs.length))) : dapp Try.prog S 29 29 ty (.sl own (bs.map bD)) (.win j off xs.length c) K := by
  refine dapp_rowW (es2 := xs.map bD) elBy (by rw [elBy]; rfl) zeBy (by rw [szBy, flat_bD2, List.length_map]; exact hs) (by rw [szBy]; exact wBy bs) (by rw [szBy]; exact wBy xs) ?_ (by rw [List.length_map, List.length_map]; omega) (by rw [List.length_map, List.length_map, byBy]; omega) ?_
  · rcases h with ⟨rfl, _⟩ | ⟨g, rfl, h⟩
    · exact .inl rfl
    · exact .inr ⟨g, rfl, by rw [List.length_map]; exact h⟩
  · rw [List.map_append] at k
    rw [List.length_map, List.length_map]
    exact k
set_option maxRecDepth 200000 in
set_option maxHeartbeats 4000000 in
theorem raw_win {S : St} {k : Nat} {bs : List UInt8} {j off c : Nat} (xs : List UInt8) (hs : SrcOk S 1 (.win j off xs.length c) xs.length (xs.map bD)) (hk : k < S.next) (h : WAt k bs S) (hl : bs.length + xs.length ≤ 1099511627776) : DCalls Try.prog 24 [.loc k 0, .win j off xs.length c] S fun d T => d = undefD ∧ WAt k (bs ++ xs) T ∧ WFr k S T := by
  obtain ⟨own, h1, h2⟩ := h
  refine dcalls_inline mixed Try.func24 rfl (fun _ _ => by kernel_rfl) (rs := []) rfl (by kernel_rfl) (fun hS => ?_)
  (simp (disch := first | decide | omega | (simp only [nx]; first | done | omega)) only [go_sem, h1]; (repeat with_reducible refine aI ?_))
  have hk2 : (k = S.next) = False := by simp; omega
  rcases h2 with ⟨rfl, rfl⟩ | ⟨g, rfl, hg, h2⟩
  · refine dapp_bytesW hs (.inl ⟨rfl, rfl⟩) (by omega) ?_
    (simp (disch := first | decide | omega | (simp only [nx]; first | done | omega)) only [go_sem, hk2, h1]; (repeat with_reducible refine aI ?_))
    refine ⟨⟨.row S.next, by simp [St.set], .inr ⟨S.next, rfl, by omega, ?_⟩⟩, ⟨by simp [St.set, St.grow, St.leave, St.add], fun j' o hj e => ?_⟩⟩
    · simp [St.grow, St.leave, St.add, St.set, Ne.symm (show k ≠ S.next by omega)]
    · have hlt := hS.lt e
      have hj : j' ≠ k := by rcases hj with h | h; omega; exact h.1
      simp [St.grow, St.leave, St.add, St.set, hj, show j' ≠ S.next by omega, e]
  · have hkg : (k = g) = False := by simp; omega
    refine dapp_bytesW hs (.inr ⟨g, rfl, h2⟩) (by omega) ?_
    (simp (disch := first | decide | omega | (simp only [nx]; first | done | omega)) only [go_sem, hk2, hkg, h1]; (repeat with_reducible refine aI ?_))
    refine ⟨⟨.row S.next, by simp [St.set], .inr ⟨S.next, rfl, by omega, ?_⟩⟩, ⟨by simp [St.set, St.grow, St.leave, St.add, St.drop], fun j' o hj e => ?_⟩⟩
    · simp [St.grow, St.leave, St.add, St.set, St.drop, Ne.symm (show k ≠ S.next by omega)]
    · have hlt := hS.lt e
      have hjg : j' ≠ g := fun e2 => by
        rcases hj with h | ⟨_, t, cs, rfl⟩
        · omega
        · rw [e2, h2] at e; cases e
      have hj : j' ≠ k := by rcases hj with h | h; omega; exact h.1
      simp [St.grow, St.leave, St.add, St.set, St.drop, hj, hjg, show j' ≠ S.next by omega, e]
def headM (m : DMs) : List UInt8 := b8 m.k.toNat :: (if m.k = 1 then (if m.r then 1 else 0) :: m.f.1 else [])
def idsB2 (l : List H32) : List UInt8 := l.flatMap (·.1)
def esB (l : List (List UInt8)) : List UInt8 := l.flatMap fun b => numB b.length ++ b
def bytesM (m : DMs) : List UInt8 := headM m ++ numB (m.ids.length + m.es.length) ++ idsB2 m.ids ++ esB m.es
noncomputable def encRes25 (m : DMs) : D := if rightM m = true then .tup [.sl .no ((bytesM m).map bD), .v .nilIface] else .tup [.sl .no [], erD 1]
theorem encRes25_closed (m : DMs) : (encRes25 m).closed := by
  unfold encRes25
  split
  · have := closed_bB (bytesM m)
    simp only [D.closed, D.all, allL] at this ⊢
    exact ⟨this, trivial, trivial⟩
  · simp [D.closed, D.all, allL, Own.all, erD]
theorem right_kind {m : DMs} (h : rightM m = true) : m.k = 1 ∨ m.k = 2 ∨ m.k = 3 := by
  unfold rightM at h
  by_cases h1 : m.k = 1
  · exact .inl h1
  · by_cases h2 : m.k = 2
    · exact .inr (.inl h2)
    · by_cases h3 : m.k = 3
      · exact .inr (.inr h3)
      · rw [if_neg h1, if_neg h2, if_neg h3] at h; cases h
theorem right_es {m : DMs} (h : rightM m = true) : m.ids.length ≤ 64 ∧ m.es.length ≤ 8 ∧ ∀ b ∈ m.es, 1 ≤ b.length ∧ b.length ≤ 4096 := by
  unfold rightM at h
  by_cases h1 : m.k = 1
  · rw [if_pos h1] at h
    simp only [Bool.and_eq_true, decide_eq_true_eq] at h
    rw [h.2]
    exact ⟨h.1.1, by simp, fun b hb => by cases hb⟩
  · rw [if_neg h1] at h
    by_cases h2 : m.k = 2
    · rw [if_pos h2] at h
      simp only [batchN, Bool.and_eq_true, decide_eq_true_eq] at h
      rw [h.2]
      exact ⟨by omega, by simp, fun b hb => by cases hb⟩
    · rw [if_neg h2] at h
      by_cases h3 : m.k = 3
      · rw [if_pos h3] at h
        simp only [batchN, Bool.and_eq_true, decide_eq_true_eq, Bool.not_eq_true', List.any_eq_false] at h
        rw [h.1.1.2]
        refine ⟨by simp, by omega, fun b hb => ?_⟩
        have := h.2 b hb
        simp only [badE, Bool.or_eq_true, decide_eq_true_eq] at this
        omega
      · rw [if_neg h3] at h; cases h
theorem idsB2_take {l : List H32} {i : Nat} (h : i < l.length) : idsB2 (l.take (i + 1)) = idsB2 (l.take i) ++ l[i].1 := by
  rw [idsB2, List.take_succ_eq_append_getElem h, List.flatMap_append]; simp [idsB2]
theorem esB_take {l : List (List UInt8)} {i : Nat} (h : i < l.length) : esB (l.take (i + 1)) = esB (l.take i) ++ (numB l[i].length ++ l[i]) := by
  rw [esB, List.take_succ_eq_append_getElem h, List.flatMap_append]; simp [esB]
theorem idsB2_len : ∀ (l : List H32), (idsB2 l).length = 32 * l.length
  | [] => rfl
  | h :: l => by
    have := idsB2_len l
    show (h.1 ++ idsB2 l).length = _
    rw [List.length_append, h.2, this, List.length_cons]; omega
theorem esB_len : ∀ (l : List (List UInt8)), (∀ b ∈ l, b.length ≤ 4096) → (esB l).length ≤ 4200 * l.length
  | [], _ => Nat.le_refl _
  | b :: l, h => by
    have h1 := esB_len l fun x hx => h x (List.mem_cons_of_mem _ hx)
    have h2 := h b (List.mem_cons_self ..)
    have h3 := numB_length_le b.length (by omega)
    show ((numB b.length ++ b) ++ esB l).length ≤ _
    simp only [List.length_append, List.length_cons]
    omega
theorem add_setq (T : St) (o o' : Ob) : (T.add o).set T.next o' = T.add o' := by
  unfold St.add St.set
  congr 1
  funext j
  by_cases h : j = T.next <;> simp [h]
theorem srcOk_hash {S : St} {k c : Nat} {t : TypeId} {h : H32} (hk : S.ob k = some (.box t (h.1.map bD))) : SrcOk S 1 (.win k 0 32 c) 32 (h.1.map bD) := by
  have := srcOk_win (z := 1) (off := 0) (n := 32) (c := c) hk (by rw [len_encH]; omega)
  rwa [List.drop_zero, Nat.mul_one, take_hash] at this
theorem srcOk_filter {S : St} {k c : Nat} {t : TypeId} {m : DMs} (hk : S.ob k = some (.box t (msCs m))) : SrcOk S 1 (.win k 2 64 c) 64 (m.f.1.map bD) := by
  have := srcOk_win (z := 1) (off := 2) (n := 64) (c := c) hk (by rw [len_msCs]; omega)
  rwa [Nat.mul_one, f_msCs] at this
section
set_option maxRecDepth 200000
set_option maxHeartbeats 8000000
theorem encode25_d (m : DMs) (hi : m.ids.length ≤ 1000000) (he : m.es.length ≤ 1000000) : DPure Try.prog 9 [encMs m] (encRes25 m) := by
  refine dpure_of_dwp mixed Try.func9 rfl (fun _ _ => by kernel_rfl) (rs := [.tmp 2, .tmp 3]) rfl (by kernel_rfl) (encRes25_closed m) (fun S hS => ?_)
  (simp (disch := first | decide | omega | (simp only [nx]; first | done | omega)) only [go_sem]; (repeat with_reducible refine aI ?_))
  refine DCalls.of_pure (right25_d m hi he) ?_
  cases hrt : rightM m with
  | false =>
    (simp (disch := first | decide | omega | (simp only [nx]; first | done | omega)) only [go_sem]; (repeat with_reducible refine aI ?_))
    refine ⟨?_, (by (repeat' first | assumption | exact St.Sub.refl _ | exact RowOk.sub (by assumption) (by assumption) | refine St.Sub.trans ?_ (RowOk.sub (by assumption) (by assumption)) | refine St.Sub.add ?_ ?_ _ | refine St.Sub.set ?_ ?_ ?_ _ | refine St.Sub.keep ?_ ?_ | refine St.WF.leave ?_ _ | refine St.WF.add ?_ _ | refine St.WF.set ?_ ?_ _ | refine St.WF.grow ?_ _ _ _ | refine St.WF.keep ?_ ?_ | (first | omega | (simp only [RowOk.lo, nx]; first | done | omega))))⟩
    rw [encRes25, if_neg (by rw [hrt]; simp)]
    rfl
  | true =>
    obtain ⟨n, hn, hn3⟩ : ∃ n : Nat, m.k = (n : Int) ∧ n < 128 := by
      rcases right_kind hrt with h | h | h
      · exact ⟨1, h, by omega⟩
      · exact ⟨2, h, by omega⟩
      · exact ⟨3, h, by omega⟩
    obtain ⟨hids, hes, hbs⟩ := right_es hrt
    have wk : IntKind.u8.wrap m.k = ((b8 n).toNat : Int) := by
      rw [hn, wrap_u8]
      unfold b8
      rw [UInt8.toNat_ofNat']
      omega
    (simp (disch := first | decide | omega | (simp only [nx]; first | done | omega)) only [go_sem, cv_i64u8, wk]; (repeat with_reducible refine aI ?_))
    have hT0 : ((S.add (.box 26 (msCs m))).add (.box 53 [.sl .full []])).WF := (hS.add _).add _
    have tm : ((S.add (.box 26 (msCs m))).add (.box 53 [.sl .full []])).ob S.next = some (.box 26 (msCs m)) := by (first | (simp (disch := first | decide | omega | (simp only [nx]; first | done | omega)) only [go_sem]; first | done | rfl) | rfl)
    have tw : WAt (S.next + 1) [] ((S.add (.box 26 (msCs m))).add (.box 53 [.sl .full []])) := ⟨.full, by (first | (simp (disch := first | decide | omega | (simp only [nx]; first | done | omega)) only [go_sem]; first | done | rfl) | rfl), .inl ⟨rfl, rfl⟩⟩
    have ts : S.Sub ((S.add (.box 26 (msCs m))).add (.box 53 [.sl .full []])) := ((St.Sub.refl S).add hS _).add hS _
    obtain ⟨T0, hT0e⟩ : ∃ T, T = (S.add (.box 26 (msCs m))).add (.box 53 [.sl .full []]) := ⟨_, rfl⟩
    have tn : T0.next = S.next + 1 + 1 := by rw [hT0e]; rfl
    rw [← hT0e] at hT0 tm tw ts ⊢
    clear hT0e
    refine DCalls.mono (DCalls.wf (byte_w (b8 n) (by omega) tw (by simp))) ?_
    rintro _ T1 ⟨⟨rfl, h1, F1⟩, hT1⟩
    have z1 := F1.box S.next _ _ (by omega) tm
    (simp (disch := first | decide | omega | (simp only [nx]; first | done | omega)) only [go_sem, z1]; (repeat with_reducible refine aI ?_))
    refine dIf_cut (fun f' S' => f' 1 = .loc S.next 0 ∧ f' 4 = .loc (S.next + 1) 0 ∧ S'.WF ∧ WAt (S.next + 1) (headM m) S' ∧ WFr (S.next + 1) T0 S') ?_ ?_
    · refine dIf_both (fun hb => ?_) (fun hb => ?_)
      · have hk1 : m.k = 1 := beq_iff_eq.1 hb
        (simp (disch := first | decide | omega | (simp only [nx]; first | done | omega)) only [go_sem, z1]; (repeat with_reducible refine aI ?_))
        have n1 := F1.next
        refine DCalls.mono (DCalls.wf (bool_w m.r (by omega) h1 (by simp))) ?_
        rintro _ T2 ⟨⟨rfl, h2, F2⟩, hT2⟩
        have z2 := F2.box S.next _ _ (by omega) z1
        have n2 := F2.next
        (simp (disch := first | decide | omega | (simp only [nx]; first | done | omega)) only [go_sem, z2]; (repeat with_reducible refine aI ?_))
        have hlf := m.f.2
        have key := raw_win (S := T2) (k := S.next + 1) (j := S.next) (off := 2) (c := 64) m.f.1 (by rw [hlf]; exact srcOk_filter z2) (by omega) h2 (by simp [hlf])
        rw [hlf] at key
        refine DCalls.mono (DCalls.wf key) ?_
        rintro _ T3 ⟨⟨rfl, h3, F3⟩, hT3⟩
        (simp (disch := first | decide | omega | (simp only [nx]; first | done | omega)) only [go_sem]; (repeat with_reducible refine aI ?_))
        refine ⟨?_, F1.trans (F2.trans F3)⟩
        have e : headM m = [] ++ [b8 n] ++ [if m.r = true then 1 else 0] ++ m.f.1 := by
          rw [headM, if_pos hk1, hn]; simp
        rw [e]
        exact h3
      · have hk1 : ¬ m.k = 1 := beq_eq_false_iff_ne.1 hb
        (simp (disch := first | decide | omega | (simp only [nx]; first | done | omega)) only [go_sem]; (repeat with_reducible refine aI ?_))
        refine ⟨?_, F1⟩
        have e : headM m = [] ++ [b8 n] := by rw [headM, if_neg hk1, hn]; simp
        rw [e]
        exact h1
    · rintro f' T2 ⟨f1, f4, hT2, h2, F2⟩
      have z2 := F2.box S.next _ _ (by omega) tm
      have n2 := F2.next
      have wa : IntKind.i64.wrap ((m.ids.length : Int) + (m.es.length : Int)) = ((m.ids.length + m.es.length : Nat) : Int) := (IntWalk.i64_in _ ⟨by omega, by omega⟩).trans (by omega)
      have wu : IntKind.u64.wrap ((m.ids.length + m.es.length : Nat) : Int) = ((m.ids.length + m.es.length : Nat) : Int) := wrap_u64 _ (by unfold IsU64; omega)
      have hhl : (headM m).length ≤ 100 := by
        rw [headM]
        split
        · simp [m.f.2]
        · simp
      (simp (disch := first | decide | omega | (simp only [nx]; first | done | omega)) only [go_sem, f1, f4, z2, cv_i64u64, wa, wu]; (repeat with_reducible refine aI ?_))
      refine DCalls.mono (DCalls.wf (number_w (m.ids.length + m.es.length) (by unfold IsU64; omega) (by omega) h2 (by omega))) ?_
      rintro _ T3 ⟨⟨rfl, h3, F3'⟩, hT3⟩
      have F3 := F2.trans F3'
      have z3 := F3.box S.next _ _ (by omega) tm
      have n3 := F3.next
      (simp (disch := first | decide | omega | (simp only [nx]; first | done | omega)) only [go_sem, f1, f4, z3]; (repeat with_reducible refine aI ?_))
      have hnl := numB_length_le (m.ids.length + m.es.length) (by omega)
      refine dloop_up (fun t => List.contains [6, 38, 39, 40, 41, 42, 43, 44] t) (by kernel_rfl) (by exact hT3) m.ids.length (fun i q T => i ≤ m.ids.length ∧ q 38 = .v (.int .i64 ((i : Nat) : Int)) ∧ WAt (S.next + 1) (headM m ++ numB (m.ids.length + m.es.length) ++ idsB2 (m.ids.take i)) T ∧ WFr (S.next + 1) T0 T)
        ⟨by omega, by (first | (simp (disch := first | decide | omega | (simp only [nx]; first | done | omega)) only [go_sem]; first | done | rfl) | rfl), by rw [List.take_zero]; simpa [idsB2] using h3, F3⟩ ?_
      rintro i q T4 hT4 hg ⟨le, q38, h4, F4⟩
      (have q1 := hg 1 rfl; have q2 := hg 2 rfl; have q3 := hg 3 rfl; have q4 := hg 4 rfl; have q36 := hg 36 rfl; have q37 := hg 37 rfl; simp (disch := first | decide | omega | (simp only [nx]; first | done | omega)) only [go_sem, f1, f4] at q1 q2 q3 q4 q36 q37; clear hg)
      have z4 := F4.box S.next _ _ (by omega) tm
      have n4 := F4.next
      have hil := idsB2_len (m.ids.take i)
      rw [List.length_take] at hil
      by_cases hlt : i < m.ids.length
      · have b1 : decide ((i : Int) < (m.ids.length : Int)) = true := decide_eq_true (by omega)
        have w1 : IntKind.i64.wrap ((i : Int) + 1) = ((i + 1 : Nat) : Int) := IntWalk.i64_in _ ⟨by omega, by omega⟩
        have lh := m.ids[i].2
        (simp (disch := first | decide | omega | (simp only [nx]; first | done | omega)) only [go_sem, q4, q36, q37, q38, b1, hlt, lh]; (repeat with_reducible refine aI ?_))
        rw [add_setq]
        have hob : (T4.add (.box 44 (m.ids[i].1.map bD))).ob T4.next = some (.box 44 (m.ids[i].1.map bD)) := by (first | (simp (disch := first | decide | omega | (simp only [nx]; first | done | omega)) only [go_sem]; first | done | rfl) | rfl)
        have h5 := h4.add hT4 (.box 44 (m.ids[i].1.map bD))
        have F5 := F4.add hT4 (.box 44 (m.ids[i].1.map bD))
        have hT5 := hT4.add (.box 44 (m.ids[i].1.map bD))
        have key := raw_win (S := T4.add (.box 44 (m.ids[i].1.map bD))) (k := S.next + 1) (j := T4.next) (off := 0) (c := 32) m.ids[i].1 (by rw [lh]; exact srcOk_hash hob) (by show S.next + 1 < T4.next + 1; omega) h5 (by simp only [List.length_append, lh]; omega)
        rw [lh] at key
        refine DCalls.mono (DCalls.wf key) ?_
        rintro _ T6 ⟨⟨rfl, h6, F6⟩, hT6⟩
        (simp (disch := first | decide | omega | (simp only [nx]; first | done | omega)) only [go_sem, q4, q38, w1]; (repeat with_reducible refine aI ?_))
        refine ⟨by omega, T6.ob, fun _ _ h => h, by omega, by (first | (simp (disch := first | decide | omega | (simp only [nx]; first | done | omega)) only [go_sem, w1]; first | done | rfl) | rfl), ?_, F5.trans F6⟩
        rw [idsB2_take hlt, ← List.append_assoc]
        exact h6
      · have b1 : decide ((i : Int) < (m.ids.length : Int)) = false := decide_eq_false (by omega)
        have et : m.ids.take i = m.ids := List.take_of_length_le (by omega)
        rw [et] at h4
        (simp (disch := first | decide | omega | (simp only [nx]; first | done | omega)) only [go_sem, q1, q4, q36, q37, q38, b1, z4]; (repeat with_reducible refine aI ?_))
        refine dloop_up (fun t => List.contains [8, 48, 49, 50, 51, 52, 53, 54] t) (by kernel_rfl) (by exact hT4) m.es.length (fun i q T => i ≤ m.es.length ∧ q 48 = .v (.int .i64 ((i : Nat) : Int)) ∧ WAt (S.next + 1) (headM m ++ numB (m.ids.length + m.es.length) ++ idsB2 m.ids ++ esB (m.es.take i)) T ∧ WFr (S.next + 1) T0 T)
          ⟨by omega, by (first | (simp (disch := first | decide | omega | (simp only [nx]; first | done | omega)) only [go_sem]; first | done | rfl) | rfl), by rw [List.take_zero]; simpa [esB] using h4, F4⟩ ?_
        rintro j p T5 hT5 hgz ⟨lez, q48, h5, F5⟩
        (have q2z := hgz 2 rfl; have q3z := hgz 3 rfl; have q4z := hgz 4 rfl; have q46z := hgz 46 rfl; have q47z := hgz 47 rfl; simp (disch := first | decide | omega | (simp only [nx]; first | done | omega)) only [go_sem, q1, q4] at q2z q3z q4z q46z q47z; clear hgz)
        have n5 := F5.next
        have hil2 := idsB2_len m.ids
        have hel := esB_len (m.es.take j) (fun b hb => (hbs b (List.mem_of_mem_take hb)).2)
        rw [List.length_take] at hel
        by_cases hlz : j < m.es.length
        · have b2 : decide ((j : Int) < (m.es.length : Int)) = true := decide_eq_true (by omega)
          have w2 : IntKind.i64.wrap ((j : Int) + 1) = ((j + 1 : Nat) : Int) := IntWalk.i64_in _ ⟨by omega, by omega⟩
          have ce := cells_encB m.es[j]
          have hbj := (hbs _ (List.getElem_mem hlz)).2
          (simp (disch := first | decide | omega | (simp only [nx]; first | done | omega)) only [go_sem, q4z, q46z, q47z, q48, b2, hlz, ce]; (repeat with_reducible refine aI ?_))
          refine DCalls.mono (DCalls.wf (bytes_w .no m.es[j] (by omega) h5 (by simp only [List.length_append]; omega))) ?_
          rintro _ T6 ⟨⟨rfl, h6, F6⟩, hT6⟩
          (simp (disch := first | decide | omega | (simp only [nx]; first | done | omega)) only [go_sem, q4z, q48, w2]; (repeat with_reducible refine aI ?_))
          refine ⟨by omega, T6.ob, fun _ _ h => h, by omega, by (first | (simp (disch := first | decide | omega | (simp only [nx]; first | done | omega)) only [go_sem, w2]; first | done | rfl) | rfl), ?_, F5.trans F6⟩
          rw [esB_take hlz, ← List.append_assoc]
          exact h6
        · have b2 : decide ((j : Int) < (m.es.length : Int)) = false := decide_eq_false (by omega)
          have et2 : m.es.take j = m.es := List.take_of_length_le (by omega)
          rw [et2] at h5 hel
          (simp (disch := first | decide | omega | (simp only [nx]; first | done | omega)) only [go_sem, q4z, q46z, q47z, q48, b2]; (repeat with_reducible refine aI ?_))
          refine DCalls.mono (out_w h5 (by simp only [List.length_append]; omega)) ?_
          rintro _ T6 ⟨o, rfl, h6, F6⟩
          (simp (disch := first | decide | omega | (simp only [nx]; first | done | omega)) only [go_sem]; (repeat with_reducible refine aI ?_))
          have F7 := F5.trans F6
          refine ⟨?_, ⟨by have := F7.next; have := ts.next; omega, fun j ob hj => F7.ob j ob (.inl (by have := hS.lt hj; omega)) (ts.ob j ob hj)⟩⟩
          rw [encRes25, if_pos hrt]
          simp only [D.frz, frzL, frz_bB, bytesM]
end
end Go.Proofs.Ytonncfminojejaa

namespace Go.Proofs.Ytonncfminojejaa
open Go.RowKit
def zH : H32 := ⟨List.replicate 32 0, by simp⟩
theorem agg_zH : D.agg [D.v (.int .u8 0), D.v (.int .u8 0), D.v (.int .u8 0), D.v (.int .u8 0), D.v (.int .u8 0), D.v (.int .u8 0), D.v (.int .u8 0), D.v (.int .u8 0), D.v (.int .u8 0), D.v (.int .u8 0), D.v (.int .u8 0), D.v (.int .u8 0), D.v (.int .u8 0), D.v (.int .u8 0), D.v (.int .u8 0), D.v (.int .u8 0), D.v (.int .u8 0), D.v (.int .u8 0), D.v (.int .u8 0), D.v (.int .u8 0), D.v (.int .u8 0), D.v (.int .u8 0), D.v (.int .u8 0), D.v (.int .u8 0), D.v (.int .u8 0), D.v (.int .u8 0), D.v (.int .u8 0), D.v (.int .u8 0), D.v (.int .u8 0), D.v (.int .u8 0), D.v (.int .u8 0), D.v (.int .u8 0)] = encH zH := by kernel_rfl
theorem agg_hA : D.agg [D.v (.int .u8 1), D.v (.int .u8 0), D.v (.int .u8 0), D.v (.int .u8 0), D.v (.int .u8 0), D.v (.int .u8 0), D.v (.int .u8 0), D.v (.int .u8 0), D.v (.int .u8 0), D.v (.int .u8 0), D.v (.int .u8 0), D.v (.int .u8 0), D.v (.int .u8 0), D.v (.int .u8 0), D.v (.int .u8 0), D.v (.int .u8 0), D.v (.int .u8 0), D.v (.int .u8 0), D.v (.int .u8 0), D.v (.int .u8 0), D.v (.int .u8 0), D.v (.int .u8 0), D.v (.int .u8 0), D.v (.int .u8 0), D.v (.int .u8 0), D.v (.int .u8 0), D.v (.int .u8 0), D.v (.int .u8 0), D.v (.int .u8 0), D.v (.int .u8 0), D.v (.int .u8 0), D.v (.int .u8 0)] = encH hA := by kernel_rfl
theorem agg_X0 (x y : D) : D.agg [.v (.int .i64 0), .v (.bool false), D.v (.int .u8 0), D.v (.int .u8 0), D.v (.int .u8 0), D.v (.int .u8 0), D.v (.int .u8 0), D.v (.int .u8 0), D.v (.int .u8 0), D.v (.int .u8 0), D.v (.int .u8 0), D.v (.int .u8 0), D.v (.int .u8 0), D.v (.int .u8 0), D.v (.int .u8 0), D.v (.int .u8 0), D.v (.int .u8 0), D.v (.int .u8 0), D.v (.int .u8 0), D.v (.int .u8 0), D.v (.int .u8 0), D.v (.int .u8 0), D.v (.int .u8 0), D.v (.int .u8 0), D.v (.int .u8 0), D.v (.int .u8 0), D.v (.int .u8 0), D.v (.int .u8 0), D.v (.int .u8 0), D.v (.int .u8 0), D.v (.int .u8 0), D.v (.int .u8 0), D.v (.int .u8 0), D.v (.int .u8 0), D.v (.int .u8 0), D.v (.int .u8 0), D.v (.int .u8 0), D.v (.int .u8 0), D.v (.int .u8 0), D.v (.int .u8 0), D.v (.int .u8 0), D.v (.int .u8 0), D.v (.int .u8 0), D.v (.int .u8 0), D.v (.int .u8 0), D.v (.int .u8 0), D.v (.int .u8 0), D.v (.int .u8 0), D.v (.int .u8 0), D.v (.int .u8 0), D.v (.int .u8 0), D.v (.int .u8 0), D.v (.int .u8 0), D.v (.int .u8 0), D.v (.int .u8 0), D.v (.int .u8 0), D.v (.int .u8 0), D.v (.int .u8 0), D.v (.int .u8 0), D.v (.int .u8 0), D.v (.int .u8 0), D.v (.int .u8 0), D.v (.int .u8 0), D.v (.int .u8 0), D.v (.int .u8 0), D.v (.int .u8 0), x, y] = encX 0 x y := by kernel_rfl
theorem other_no (m : DMs) (h1 : m.r = false) (h2 : m.f = zF) : otherM m = false := by rw [otherM, h1, decide_eq_true h2]; rfl
theorem right_want {l : List H32} {i : Nat} (h : AscH l) (hi : i < (l.length + 7) / 8) : rightM (wantM (chunk8 l i)) = true := by
  obtain ⟨h1, h2⟩ := chunk8_pos hi
  have ha : AscH (chunk8 l i) := List.Pairwise.sublist ((List.take_sublist _ _).trans (List.drop_sublist _ _)) h
  have hk1 : ¬ (wantM (chunk8 l i)).k = 1 := by simp [wantM]
  have hb : batchN (chunk8 l i).length = true := by rw [batchN, decide_eq_true (by omega), decide_eq_true (by omega)]; rfl
  have hk2 : (wantM (chunk8 l i)).k = 2 := rfl
  rw [rightM, if_neg hk1, if_pos hk2, other_no _ rfl rfl]
  show (!false && batchN (chunk8 l i).length && riseH (chunk8 l i) && decide (([] : List (List UInt8)) = [])) = true
  rw [hb, riseH_asc ha]
  rfl
theorem right_give {l : List (List UInt8)} {i : Nat} (h : ∀ b ∈ l, okE b = true) (hi : i < (l.length + 7) / 8) : rightM (giveM (chunk8 l i)) = true := by
  obtain ⟨h1, h2⟩ := chunk8_pos hi
  have hk1 : ¬ (giveM (chunk8 l i)).k = 1 := by simp [giveM]
  have hk2 : ¬ (giveM (chunk8 l i)).k = 2 := by simp [giveM]
  have hb : batchN (chunk8 l i).length = true := by rw [batchN, decide_eq_true (by omega), decide_eq_true (by omega)]; rfl
  have hn : (chunk8 l i).any badE = false := List.any_eq_false.2 fun b hb' => by
    have := h b (List.mem_of_mem_drop (List.mem_of_mem_take hb'))
    simpa [okE] using this
  have hk3 : (giveM (chunk8 l i)).k = 3 := rfl
  rw [rightM, if_neg hk1, if_neg hk2, if_pos hk3, other_no _ rfl rfl]
  show (!false && decide (([] : List H32) = []) && batchN (chunk8 l i).length && !((chunk8 l i).any badE)) = true
  rw [hb, hn]
  rfl
theorem rights_w (l : List H32) : ∀ m ∈ wantsM l, rightM m = true := fun m hm => by
  obtain ⟨c, hc, rfl⟩ := List.mem_map.1 hm
  obtain ⟨i, hi, rfl⟩ := List.mem_map.1 hc
  exact right_want (ascH_sortH l) (List.mem_range.1 hi)
theorem rights_g (l : List (List UInt8)) : ∀ m ∈ givesM l, rightM m = true := fun m hm => by
  obtain ⟨c, hc, rfl⟩ := List.mem_map.1 hm
  obtain ⟨i, hi, rfl⟩ := List.mem_map.1 hc
  exact right_give (fun b hb => (List.mem_filter.1 hb).2) (List.mem_range.1 hi)
theorem wantsM_len (l : List H32) : (wantsM l).length ≤ l.length := by
  have := sortH_len l
  rw [wantsM, List.length_map, chunks8_length]; omega
theorem givesM_len (l : List (List UInt8)) : (givesM l).length ≤ l.length := by
  have := List.length_filter_le okE l
  rw [givesM, List.length_map, chunks8_length]; omega
section
set_option maxRecDepth 200000
set_option maxHeartbeats 8000000
theorem aw25r : rightM (wantM [zH]) = true := by
  have := right_want (l := [zH]) (i := 0) (by simp [AscH]) (by simp)
  simpa [chunk8] using this
theorem aw25b : bytesM (wantM [zH]) = [2, 1] ++ List.replicate 32 0 := by decide +kernel
theorem aw25w : (wantsM [hA, hA]).length = 1 := by decide +kernel
theorem awake25_d : DPure Try.prog 8 [] (.v (.bool true)) := by
  refine dpure_of_dwp mixed Try.func8 rfl (fun _ _ => by kernel_rfl) (rs := [.tmp 0]) rfl (by kernel_rfl) trivial (fun S hS => ?_)
  have lz := zH.2
  (simp (disch := first | decide | omega | (simp only [nx]; first | done | omega)) only [go_sem, placeH, agg_zH, agg_X2, lz, cl_encX]; (repeat with_reducible refine aI ?_))
  refine dcalls_argfrz ?_
  have e : frzL [encX 2 (.sl .full [encH zH]) (.sl .full [])] = [encMs (wantM [zH])] := congrArg (fun x => [x]) (frz_encX2 .full [zH] .full)
  rw [e]
  refine DCalls.of_pure (encode25_d (wantM [zH]) (by simp [wantM]) (by simp [wantM])) ?_
  rw [encRes25, if_pos aw25r]
  have hb34 : (bytesM (wantM [zH])).length = 34 := by rw [aw25b]; rfl
  have hb0 : (bytesM (wantM [zH]))[0]? = some 2 := by rw [aw25b]; rfl
  have hb1 : (bytesM (wantM [zH]))[1]? = some 1 := by rw [aw25b]; rfl
  generalize bytesM (wantM [zH]) = bs at *
  have c1 : ((bs.length : Int) == 34) = true := by rw [hb34]; rfl
  have h0 : 0 < bs.length := by omega
  have h1 : 1 < bs.length := by omega
  have g0 : bs[0] = 2 := by rw [List.getElem?_eq_getElem h0] at hb0; injection hb0
  have g1 : bs[1] = 1 := by rw [List.getElem?_eq_getElem h1] at hb1; injection hb1
  have t0 : (((UInt8.toNat 2 : Nat) : Int) == 2) = true := by decide
  have t1 : (((UInt8.toNat 1 : Nat) : Int) == 1) = true := by decide
  have lA : hA.1.length = 32 := hA.2
  (simp (disch := first | decide | omega | (simp only [nx]; first | done | omega)) only [go_sem, wnil_eq, c1, h0, h1, placeH, agg_hA, bD, g0, g1, t0, t1, lA]; (repeat with_reducible refine aI ?_))
  refine DCalls.of_pure (wants_d .full [hA, hA] (by decide)) ?_
  have c2 : ((((wantsM [hA, hA]).length : Nat) : Int) == 1) = true := by rw [aw25w]; rfl
  (simp (disch := first | decide | omega | (simp only [nx]; first | done | omega)) only [go_sem, c2]; (repeat with_reducible refine aI ?_))
  refine ⟨?_, (by (repeat' first | assumption | exact St.Sub.refl _ | exact RowOk.sub (by assumption) (by assumption) | refine St.Sub.trans ?_ (RowOk.sub (by assumption) (by assumption)) | refine St.Sub.add ?_ ?_ _ | refine St.Sub.set ?_ ?_ ?_ _ | refine St.Sub.keep ?_ ?_ | refine St.WF.leave ?_ _ | refine St.WF.add ?_ _ | refine St.WF.set ?_ ?_ _ | refine St.WF.grow ?_ _ _ _ | refine St.WF.keep ?_ ?_ | (first | omega | (simp only [RowOk.lo, nx]; first | done | omega))))⟩
  rfl
end
end Go.Proofs.Ytonncfminojejaa

namespace Go.Proofs.Ytonncfminojejaa
open Go.RowKit
section
variable {P : Program} {Zs : St → Prop}
end
section
set_option maxRecDepth 200000
set_option maxHeartbeats 8000000
theorem zoBy : zeroOk Try.prog 5 = true := by kernel_rfl
theorem dat_ownB {g : FuncId} {args : List D} {S : St} {l : List UInt8} (h : S.WF → DCalls Try.prog g args S fun d T => ∃ k c zs, d = .win k 0 l.length c ∧ S.next ≤ k ∧ T.ob k = some (ownOb 5 (l.map bD) zs c) ∧ l.length ≤ c ∧ S.Sub T) : DAt Try.prog g args S (.sl .no (l.map bD)) := fun base η w vs hM hr =>
  calls_fin ((h hM.fresh).mono fun d T ⟨k, c, zs, e, hk, ho, hc, hs⟩ => ⟨T.drop k, .sl .no (l.map bD), by
    subst e
    refine thaw_own ho (by rw [List.length_map]; exact hc) (by rw [szBy]; omega) (by rw [szBy]; exact wBy l) ?_
    simp only [D.thaw, List.length_map, Nat.beq_refl, Bool.and_self, cond_true], fin_same hM.fresh (closed_bB l) ⟨hs.next, fun j o hj => by
    have := St.WF.lt (S := S) hM.fresh hj
    simp only [St.drop]
    rw [if_neg (by omega)]
    exact hs.ob j o hj⟩⟩) base η w vs hM hr
theorem cloneW_at {S : St} {j c c0 : Nat} {b : List UInt8} {zs : List D} (hj : S.ob j = some (ownOb 5 (b.map bD) zs c)) (hb0 : 0 < b.length) (hbc : b.length ≤ c) (hl : b.length ≤ 1000000) : DAt Try.prog 33 [.win j 0 b.length c0] S (.sl .no (b.map bD)) := by
  refine dat_ownB fun hS0 => ?_
  refine dcalls_inline mixed Try.func33 rfl (fun _ _ => by kernel_rfl) (rs := [.tmp 2]) rfl (by kernel_rfl) (fun hS => ?_)
  (simp (disch := first | decide | omega | (simp only [nx]; first | done | omega)) only [go_sem, hb0]; (repeat with_reducible refine aI ?_))
  have hso := srcOk_ownA (z := 1) hj (by rw [List.length_map]; exact hbc) (wBy b) (c' := c0)
  rw [List.length_map] at hso
  refine dapp_srcW (dappend_fresh elBy (by rw [elBy]; rfl) zeBy zoBy (es2 := b.map bD) (by rw [szBy]; exact hso) (by rw [List.length_map]) (by rw [List.length_map]; omega) (by rw [byBy, List.length_map]; omega) fun c' zs' h1 h2 => ?_)
  rw [List.length_map] at *
  (simp (disch := first | decide | omega | (simp only [nx]; first | done | omega)) only [go_sem]; (repeat with_reducible refine aI ?_))
  exact ⟨S.next, c', zs', rfl, Nat.le_refl _, by (first | (simp (disch := first | decide | omega | (simp only [nx]; first | done | omega)) only [go_sem]; first | done | rfl) | rfl), h1, (St.Sub.refl S).add hS0 _⟩
theorem hsortW_at {S : St} {j c c0 : Nat} {l : List H32} {zs : List D} (hj : S.ob j = some (ownOb 44 (l.map encH) zs c)) (hlc : l.length ≤ c) (hn : l.length ≤ 1000000) : DAt Try.prog 31 [.win j 0 l.length c0] S (.sl .no ((sortH l).map encH)) := by
  refine dat_ownH fun hS0 => ?_
  refine dcalls_inline mixed Try.func31 rfl (fun _ _ => by kernel_rfl) (rs := [.tmp 2]) rfl (by kernel_rfl) (fun hS => ?_)
  (simp (disch := first | decide | omega | (simp only [nx]; first | done | omega)) only [go_sem]; (repeat with_reducible refine aI ?_))
  have hso := srcOk_ownA (z := 32) hj (by rw [List.length_map]; exact hlc) (wHs l) (c' := c0)
  rw [List.length_map] at hso
  refine dapp_srcW (dappend_fresh elHs (by rw [elHs]; rfl) zeHs zoHs (es2 := l.map encH) (by rw [szHs]; exact hso) (by rw [List.length_map]) (by rw [List.length_map]; omega) (by rw [byHs, List.length_map]; omega) fun c zs h1 h2 => ?_)
  rw [szHs] at h2
  (simp (disch := first | decide | omega | (simp only [nx]; first | done | omega)) only [go_sem]; (repeat with_reducible refine aI ?_))
  refine (sortHs_w (S := S.add (ownOb 44 (l.map encH) zs c)) l ⟨by (first | (simp (disch := first | decide | omega | (simp only [nx]; first | done | omega)) only [go_sem]; first | done | rfl) | rfl), h2, by show S.next < S.next + 1; omega⟩ hn).mono ?_
  rintro d T ⟨rfl, l', hp, hs, rfl⟩
  (simp (disch := first | decide | omega | (simp only [nx]; first | done | omega)) only [go_sem]; (repeat with_reducible refine aI ?_))
  have hl := hp.length_eq
  have hpl := packH_sort hp hs
  have key := compactH_w (S := (S.add (ownOb 44 (l.map encH) zs c)).set S.next (ownOb 44 (l'.map encH) zs c)) (k := S.next) (c := c) (zs := zs) l' ⟨by (first | (simp (disch := first | decide | omega | (simp only [nx]; first | done | omega)) only [go_sem]; first | done | rfl) | rfl), by simp only [List.length_append, flatHs_len] at h2 ⊢; omega, by show S.next < S.next + 1; omega⟩ (by omega)
  rw [hl, hpl] at key
  refine key.mono ?_
  rintro d T ⟨zs', rfl, ho, hnx, hf⟩
  (simp (disch := first | decide | omega | (simp only [nx]; first | done | omega)) only [go_sem]; (repeat with_reducible refine aI ?_))
  refine ⟨S.next, c, zs', rfl, Nat.le_refl _, ho, by have : S.next + 1 ≤ T.next := hnx; omega, fun j o h => ?_⟩
  have := hS.lt h
  have hj : j ≠ S.next := by omega
  refine hf j o hj ?_
  (first | (simp (disch := first | decide | omega | (simp only [nx]; first | done | omega)) only [go_sem, hj, h]; first | done | rfl) | rfl)
end
end Go.Proofs.Ytonncfminojejaa

namespace Go.Proofs.Ytonncfminojejaa
open Go.RowKit
theorem dat_frz {P : Program} {g : FuncId} {args : List D} {S : St} {r : D} (hc : r.closed) (h : S.WF → DCalls P g args S fun d T => d.frz = r ∧ S.Sub T) : DAt P g args S r := fun base η w vs hM hr =>
  calls_fin ((h hM.fresh).mono fun d T ⟨e, hs⟩ => DFin.t ⟨r, S, e ▸ DLe.frz d, D.all_mono (fun _ h => h.elim) hc, hs.next, Nat.le_refl _, fun k o hk => ⟨hs.ob k o hk, St.WF.lt (S := S) hM.fresh hk, fun _ _ _ => .inl hk⟩, rfl, rfl⟩) base η w vs hM hr
def winsD (l : List (List UInt8)) (wk wc : Nat → Nat) : List D := (List.range l.length).map fun i => .win (wk i) 0 (l.getD i []).length (wc i)
theorem winsD_len (l : List (List UInt8)) (wk wc : Nat → Nat) : (winsD l wk wc).length = l.length := by simp [winsD]
theorem winsD_at (l : List (List UInt8)) (wk wc : Nat → Nat) {i : Nat} (h : i < l.length) : (winsD l wk wc)[i]'(by rw [winsD_len]; exact h) = .win (wk i) 0 l[i].length (wc i) := by
  simp only [winsD, List.getElem_map, List.getElem_range]
  rw [List.getD_eq_getElem?_getD, List.getElem?_eq_getElem h]; rfl
theorem winsD_getD (l : List (List UInt8)) (wk wc : Nat → Nat) {i : Nat} (h : i < l.length) : (winsD l wk wc).getD i undefD = .win (wk i) 0 l[i].length (wc i) := by
  rw [List.getD_eq_getElem?_getD, List.getElem?_eq_getElem (by rw [winsD_len]; exact h), winsD_at l wk wc h]; rfl
section
set_option maxRecDepth 200000
set_option maxHeartbeats 8000000
theorem wantsW_at {S : St} {kh c c0 : Nat} {l : List H32} {zs : List D} (hk : S.ob kh = some (ownOb 44 (l.map encH) zs c)) (hlc : l.length ≤ c) (hl : l.length ≤ 1000000) : DAt Try.prog 12 [.win kh 0 l.length c0] S (.sl .no ((wantsM l).map encMs)) := by
  refine dat_frz (closed_Ms _) fun hS => ?_
  have hkl := hS.lt hk
  refine dcalls_range mixed Try.func12 rfl (fun _ _ => by kernel_rfl) (rs := [.tmp 2]) rfl (by kernel_rfl) fun _ => ?_
  (simp (disch := first | decide | omega | (simp only [nx]; first | done | omega)) only [go_sem]; (repeat with_reducible refine aI ?_))
  refine go_at (hsortW_at (c := c) (zs := zs) (by (first | (simp (disch := first | decide | omega | (simp only [nx]; first | done | omega)) only [go_sem, hk]; first | done | rfl) | rfl)) hlc hl) ?_
  (simp (disch := first | decide | omega | (simp only [nx]; first | done | omega)) only [go_sem]; (repeat with_reducible refine aI ?_))
  refine DCalls.mono (DCalls.wf (chunkH_d .no ((sortH l).map encH))) ?_
  rintro d T ⟨⟨rfl, hsub⟩, hT⟩
  have hsl := sortH_len l
  have hcl : (chunks8 (sortH l)).length = ((sortH l).length + 7) / 8 := chunks8_length _
  (simp (disch := first | decide | omega | (simp only [nx]; first | done | omega)) only [go_sem]; (repeat with_reducible refine aI ?_))
  refine drange_mk (((sortH l).length + 7) / 8) (fun i => .sl .no ((((sortH l).map encH).drop (8 * i)).take 8)) (fun i T' => OutM S.next S (((chunks8 (sortH l)).take i).map encW) T') (by (first | (simp (disch := first | decide | omega | (simp only [nx]; first | done | omega)) only [go_sem]; first | done | rfl) | rfl)) (by have := chunkH_seq (S := T) .no ((sortH l).map encH) (wHs _); rwa [List.length_map] at this) ?_ ?_ ?_
  · exact ⟨⟨.full, hsub.ob _ _ (by (first | (simp (disch := first | decide | omega | (simp only [nx]; first | done | omega)) only [go_sem]; first | done | rfl) | rfl)), .inl ⟨rfl, rfl⟩⟩, ((St.Sub.refl S).add hS _).trans hsub, Nat.le_refl _⟩
  · intro i T1 hi hT1 hI
    obtain ⟨own1, h1, h2⟩ := hI.ex
    have hkl := hT1.lt h1
    obtain ⟨hc0, hc8⟩ := chunk8_pos hi
    simp only [chunk8_map]
    generalize hes : ((chunks8 (sortH l)).take i).map encW = es at *
    have hel : es.length ≤ 1000000 := by rw [← hes, List.length_map, List.length_take]; omega
    have hew : ∀ d ∈ es, d.width = 68 := fun d hd => by rw [← hes] at hd; obtain ⟨m, _, rfl⟩ := List.mem_map.1 hd; exact width_encW m
    (simp (disch := first | decide | omega | (simp only [nx]; first | done | omega)) only [go_sem]; (repeat with_reducible refine aI ?_))
    refine ddraw_any (fun S' => S'.ob S.next = some (.box 36 [.sl own1 es])) 6 (by (first | (simp (disch := first | decide | omega | (simp only [nx]; first | done | omega)) only [go_sem, h1]; first | done | rfl) | rfl)) (by kernel_rfl) ?_
    (refine s_take 0 rfl (by kernel_rfl) (by kernel_rfl) (v := ?v1) (fun S' hz => dquietR_of ?h1) <| s_take 1 rfl (by kernel_rfl) (by kernel_rfl) (v := ?v2) (fun S' hz => dquietR_of ?h2) <| ?k2; (case h1 | h2 => ((simp (disch := first | decide | omega | (simp only [nx]; first | done | omega)) only [go_sem, hz]; (repeat with_reducible refine aI ?_)); first | done | exact rfl | omega)))
    (refine s_take 2 rfl (by kernel_rfl) (by kernel_rfl) (v := ?v3) (fun S' hz => dquietR_of ?h3) ?k3; (case h3 => ((simp (disch := first | decide | omega | (simp only [nx]; first | done | omega)) only [go_sem, hz]; (repeat with_reducible refine aI ?_)); refine dqgo_mk (cloneHs_d .no (chunk8 (sortH l) i) hc0 (by omega)) ?_; exact rfl)))
    (refine s_take 3 rfl (by kernel_rfl) (by kernel_rfl) (v := ?v4) (fun S' hz => dquietR_of ?h4) <| s_take 4 rfl (by kernel_rfl) (by kernel_rfl) (v := ?v5) (fun S' hz => dquietR_of ?h5) <| ?k5; (case h4 | h5 => ((simp (disch := first | decide | omega | (simp only [nx]; first | done | omega)) only [go_sem, agg_W, width_encW, okCell_encW, cl_encW, hz]; (repeat with_reducible refine aI ?_)); first | done | exact rfl | omega)))
    (refine s_split [5] (by kernel_rfl) (by simp) ?_; intro j_ hj_; obtain rfl : j_ = 5 := (by simpa using hj_); clear hj_; refine s_op rfl ?_; (simp (disch := first | decide | omega | (simp only [nx]; first | done | omega)) only [go_sem]; (repeat with_reducible refine aI ?_)))
    refine dapp_ms (h2.imp id fun ⟨g, e, _, _, h⟩ => ⟨g, e, h⟩) hel hew (width_encW _) ?_
    have hg := hI.keep hT1 h1 26 (es.length + 1)
    refine ⟨hg, ?_⟩
    (refine s_done (by kernel_rfl) ?_; (simp (disch := first | decide | omega | (simp only [nx]; first | done | omega)) only [go_sem, hg]; (repeat with_reducible refine aI ?_)))
    rw [chunks8_take _ hi, List.map_append, hes]
    exact hI.app hT1 hS h1
  · intro T1 hT1 hI
    obtain ⟨own1, h1, h2⟩ := hI.ex
    have et : (chunks8 (sortH l)).take (((sortH l).length + 7) / 8) = chunks8 (sortH l) := List.take_of_length_le (by omega)
    rw [et] at h1
    (simp (disch := first | decide | omega | (simp only [nx]; first | done | omega)) only [go_sem, h1]; (repeat with_reducible refine aI ?_))
    refine ⟨?_, hI.sub⟩
    simp only [D.frz, frzL_map, List.map_map, wantsM]
    congr 1
    exact List.map_congr_left fun m _ => frz_encW m
theorem givesW_at {S : St} {ownA : Own} (l : List (List UInt8)) (wk wc : Nat → Nat) (zs : Nat → List D) (hl : l.length ≤ 1000000) (hw : ∀ i (h : i < l.length), S.ob (wk i) = some (ownOb 5 (l[i].map bD) (zs i) (wc i)) ∧ l[i].length ≤ wc i) : DAt Try.prog 13 [.sl ownA (winsD l wk wc)] S (.sl .no ((givesM l).map encMs)) := by
  refine dat_frz (closed_Ms _) fun hS => ?_
  refine dcalls_range mixed Try.func13 rfl (fun _ _ => by kernel_rfl) (rs := [.tmp 2]) rfl (by kernel_rfl) fun _ => ?_
  (simp (disch := first | decide | omega | (simp only [nx]; first | done | omega)) only [go_sem]; (repeat with_reducible refine aI ?_))
  have wl := winsD_len l wk wc
  (refine dloop_row (fun t => List.contains [3, 5, 10, 11, 12, 13, 14, 15, 16, 17, 18, 19, 20, 21, 22, 23, 24, 25, 26, 27] t) (by kernel_rfl) ?_ (l.length) (29) (fun i own m f => i ≤ l.length ∧ f 10 = .v (.int .i64 (i : Nat)) ∧ f 3 = .sl own (((l.take i).filter okE).map encB) ∧ (own = .full ∨ m = ((l.take i).filter okE).length)) ?_ ?_; (exact (by (repeat' first | assumption | refine St.WF.leave ?_ _ | refine St.WF.add ?_ _ | refine St.WF.set ?_ ?_ _ | refine St.WF.grow ?_ _ _ _ | refine St.WF.keep ?_ ?_ | (first | omega | (simp only [RowOk.lo, nx]; first | done | omega))))); (exact ⟨(by omega), (by (first | (simp (disch := first | decide | omega | (simp only [nx]; first | done | omega)) only [go_sem]; first | done | rfl) | rfl)), (by (first | (simp (disch := first | decide | omega | (simp only [nx]; first | done | omega)) only [go_sem]; first | done | rfl) | rfl)), (.inl rfl)⟩); intro i g tn own m hn hr hT hg hI; obtain ⟨le, q10, q3, hm⟩ := hI; have q2 := hg 2 rfl; have q8 := hg 8 rfl; have q9 := hg 9 rfl; simp (disch := first | decide | omega | (simp only [nx]; first | done | omega)) only [go_sem] at q2 q8 q9; clear hg; have hn' := hn; try simp only [add_next, set_next, grow_next, leave_next, drop_next] at hn')
  have hle := okE_len l i
  by_cases hlt : i < l.length
  · have b1 : decide ((i : Int) < (l.length : Int)) = true := decide_eq_true (by omega)
    have w1 : IntKind.i64.wrap ((i : Int) + 1) = ((i + 1 : Nat) : Int) := IntWalk.i64_in _ ⟨by omega, by omega⟩
    have hro := fun {e m k} => rowOf_lt hr (e := e) (m := m) (k := k)
    have wa := winsD_getD l wk wc hlt
    have ce : (D.win (wk i) 0 l[i].length (wc i)).cells.length = 1 := rfl
    have ce2 : (D.win (wk i) 0 l[i].length (wc i)).cells.getD 0 undefD = D.win (wk i) 0 l[i].length (wc i) := rfl
    obtain ⟨hwi, hwc⟩ := hw i hlt
    have hwk := hS.lt hwi
    have hlt2 : i < (winsD l wk wc).length := by rw [wl]; exact hlt
    have hle2 := okE_len l (i + 1)
    rw [okE_take hlt, List.length_append] at hle2
    by_cases h0 : 0 < l[i].length
    · have b2 : decide ((l[i].length : Int) > 0) = true := decide_eq_true (by omega)
      by_cases h4 : l[i].length ≤ 4096
      · have b3 : decide ((l[i].length : Int) ≤ 4096) = true := decide_eq_true (by omega)
        have hok : okE l[i] = true := by
          rw [okE, badE, decide_eq_false (by omega), decide_eq_false (by omega)]; rfl
        rw [if_pos hok] at hle2
        (simp (disch := first | decide | omega | (simp only [nx]; first | done | omega)) only [go_sem, q3, q8, q9, q10, b1, wl, hlt, hlt2, wa, ce, ce2, b2, b3, hro]; (repeat with_reducible refine aI ?_))
        refine go_at (cloneW_at (S := ⟨tn, rowOf S own 29 m⟩) (b := l[i]) (c := wc i) (zs := zs i) ((hro hwk).trans hwi) h0 hwc (by omega)) ?_
        (simp (disch := first | decide | omega | (simp only [nx]; first | done | omega)) only [go_sem, q3, q8, q9, q10, b1, wl, hlt, hlt2, wa, ce, ce2, b2, b3, hro]; (repeat with_reducible refine aI ?_))
        have e1 : D.sl .no (l[i].map bD) = encB l[i] := rfl
        rw [e1]
        (refine dapp_grow (by (first | (simp (disch := first | decide | omega | (simp only [nx]; first | done | omega)) only [go_sem]; first | done | rfl) | rfl)) (by (first | (simp (disch := first | decide | omega | (simp only [nx]; first | done | omega)) only [go_sem]; first | done | rfl) | rfl)) (by (first | (simp (disch := first | decide | omega | (simp only [nx]; first | done | omega)) only [go_sem]; first | done | rfl) | rfl)) (fun d hd => ?_) (fun d hd => ?_) hr (by (repeat' first | assumption | exact St.Sub.refl _ | exact RowOk.sub (by assumption) (by assumption) | refine St.Sub.trans ?_ (RowOk.sub (by assumption) (by assumption)) | refine St.Sub.add ?_ ?_ _ | refine St.Sub.set ?_ ?_ ?_ _ | refine St.Sub.keep ?_ ?_ | refine St.WF.leave ?_ _ | refine St.WF.add ?_ _ | refine St.WF.set ?_ ?_ _ | refine St.WF.grow ?_ _ _ _ | refine St.WF.keep ?_ ?_ | (first | omega | (simp only [RowOk.lo, nx]; first | done | omega)))) ?_ ?_ ?_ ?_; (exact (by first | (simp (disch := first | decide | omega | (simp only [nx]; first | done | omega)) only [go_sem]; done) | (simp (disch := first | decide | omega | (simp only [nx]; first | done | omega)) only [go_sem]; exact (by obtain ⟨q, _, rfl⟩ := List.mem_map.1 hd; exact width_encB q)))); (exact (by first | (simp (disch := first | decide | omega | (simp only [nx]; first | done | omega)) only [go_sem]; done) | (simp (disch := first | decide | omega | (simp only [nx]; first | done | omega)) only [go_sem]; exact (by obtain rfl := List.mem_singleton.1 hd; exact width_encB l[i])))); (exact (by rw [List.length_map]; exact hm)))
        · simp only [List.length_map, List.length_singleton]; omega
        · simp (disch := first | decide | omega | (simp only [nx]; first | done | omega)) only [go_sem]; omega
        (simp (disch := first | decide | omega | (simp only [nx]; first | done | omega)) only [go_sem, q3, q8, q9, q10, w1]; (repeat with_reducible refine aI ?_))
        have e2 : (l.take (i + 1)).filter okE = (l.take i).filter okE ++ [l[i]] := by rw [okE_take hlt, if_pos hok]
        (refine ⟨by omega, _, _, RowNext.grow (m := m) ?_ ?_ hr hn ?_ (St.Sub.refl _), ?_⟩; (exact (by (repeat' first | assumption | refine St.WF.leave ?_ _ | refine St.WF.add ?_ _ | refine St.WF.set ?_ ?_ _ | refine St.WF.grow ?_ _ _ _ | refine St.WF.keep ?_ ?_ | (first | omega | (simp only [RowOk.lo, nx]; first | done | omega))))); (exact (by (first | omega | (simp only [RowOk.lo, nx]; first | done | omega)))); (exact (by (repeat' first | assumption | exact St.Sub.refl _ | exact RowOk.sub (by assumption) (by assumption) | refine St.Sub.trans ?_ (RowOk.sub (by assumption) (by assumption)) | refine St.Sub.add ?_ ?_ _ | refine St.Sub.set ?_ ?_ ?_ _ | refine St.Sub.keep ?_ ?_ | refine St.WF.leave ?_ _ | refine St.WF.add ?_ _ | refine St.WF.set ?_ ?_ _ | refine St.WF.grow ?_ _ _ _ | refine St.WF.keep ?_ ?_ | (first | omega | (simp only [RowOk.lo, nx]; first | done | omega))))); refine ⟨by omega, ?_, ?_, ?_⟩; all_goals (try (first | (simp (disch := first | decide | omega | (simp only [nx]; first | done | omega)) only [go_sem, w1]; first | done | rfl) | rfl)))
        · rw [e2, List.map_append]; rfl
        · exact .inr (by rw [e2, List.length_append]; rfl)
      · have b3 : decide ((l[i].length : Int) ≤ 4096) = false := decide_eq_false (by omega)
        have hok : okE l[i] = false := by
          rw [okE, badE, decide_eq_true (by omega : 4096 < l[i].length), Bool.or_true]; rfl
        have e2 : (l.take (i + 1)).filter okE = (l.take i).filter okE := by rw [okE_take hlt, hok]; simp
        (simp (disch := first | decide | omega | (simp only [nx]; first | done | omega)) only [go_sem, q3, q8, q9, q10, b1, wl, hlt, hlt2, wa, ce, ce2, b2, b3, w1, hro]; (repeat with_reducible refine aI ?_))
        (refine ⟨by omega, _, _, RowNext.same (m := m) hr hn ?_, ?_⟩; (exact (by (repeat' first | assumption | exact St.Sub.refl _ | exact RowOk.sub (by assumption) (by assumption) | refine St.Sub.trans ?_ (RowOk.sub (by assumption) (by assumption)) | refine St.Sub.add ?_ ?_ _ | refine St.Sub.set ?_ ?_ ?_ _ | refine St.Sub.keep ?_ ?_ | refine St.WF.leave ?_ _ | refine St.WF.add ?_ _ | refine St.WF.set ?_ ?_ _ | refine St.WF.grow ?_ _ _ _ | refine St.WF.keep ?_ ?_ | (first | omega | (simp only [RowOk.lo, nx]; first | done | omega))))); refine ⟨by omega, ?_, ?_, ?_⟩; all_goals (try (first | (simp (disch := first | decide | omega | (simp only [nx]; first | done | omega)) only [go_sem, w1, q3, e2]; first | done | rfl) | rfl)))
        · rw [e2]; exact hm
    · have b2 : decide ((l[i].length : Int) > 0) = false := decide_eq_false (by omega)
      have hok : okE l[i] = false := by
        rw [okE, badE, decide_eq_true (by omega : l[i].length = 0)]; rfl
      (simp (disch := first | decide | omega | (simp only [nx]; first | done | omega)) only [go_sem, q3, q8, q9, q10, b1, wl, hlt, hlt2, wa, ce, ce2, b2, w1, hro]; (repeat with_reducible refine aI ?_))
      have e2 : (l.take (i + 1)).filter okE = (l.take i).filter okE := by rw [okE_take hlt, hok]; simp
      (refine ⟨by omega, _, _, RowNext.same (m := m) hr hn ?_, ?_⟩; (exact (by (repeat' first | assumption | exact St.Sub.refl _ | exact RowOk.sub (by assumption) (by assumption) | refine St.Sub.trans ?_ (RowOk.sub (by assumption) (by assumption)) | refine St.Sub.add ?_ ?_ _ | refine St.Sub.set ?_ ?_ ?_ _ | refine St.Sub.keep ?_ ?_ | refine St.WF.leave ?_ _ | refine St.WF.add ?_ _ | refine St.WF.set ?_ ?_ _ | refine St.WF.grow ?_ _ _ _ | refine St.WF.keep ?_ ?_ | (first | omega | (simp only [RowOk.lo, nx]; first | done | omega))))); refine ⟨by omega, ?_, ?_, ?_⟩; all_goals (try (first | (simp (disch := first | decide | omega | (simp only [nx]; first | done | omega)) only [go_sem, w1, q3, e2]; first | done | rfl) | rfl)))
      · rw [e2]; exact hm
  · have b1 : decide ((i : Int) < (l.length : Int)) = false := decide_eq_false (by omega)
    have et : l.take i = l := List.take_of_length_le (by omega)
    rw [et] at q3 hm hle
    (simp (disch := first | decide | omega | (simp only [nx]; first | done | omega)) only [go_sem, q3, q8, q9, q10, wl, b1]; (repeat with_reducible refine aI ?_))
    have hsub0 : S.Sub ⟨tn, rowOf S own 29 m⟩ := (by (repeat' first | assumption | exact St.Sub.refl _ | exact RowOk.sub (by assumption) (by assumption) | refine St.Sub.trans ?_ (RowOk.sub (by assumption) (by assumption)) | refine St.Sub.add ?_ ?_ _ | refine St.Sub.set ?_ ?_ ?_ _ | refine St.Sub.keep ?_ ?_ | refine St.WF.leave ?_ _ | refine St.WF.add ?_ _ | refine St.WF.set ?_ ?_ _ | refine St.WF.grow ?_ _ _ _ | refine St.WF.keep ?_ ?_ | (first | omega | (simp only [RowOk.lo, nx]; first | done | omega))))
    obtain ⟨T0, hT0⟩ : ∃ T, T = St.mk tn (rowOf S own 29 m) := ⟨_, rfl⟩
    have hTn : T0.next = tn := by rw [hT0]
    rw [← hT0] at hsub0 hT ⊢
    clear hT0
    subst hTn
    generalize hfl : l.filter okE = fl at *
    refine DCalls.mono (DCalls.wf (chunkB_d own (fl.map encB))) ?_
    rintro d T ⟨⟨rfl, hsub⟩, hTw⟩
    have hcl : (chunks8 fl).length = (fl.length + 7) / 8 := chunks8_length _
    have wEs : ∀ d ∈ fl.map encB, d.width = 1 := fun d hd => by obtain ⟨m, _, rfl⟩ := List.mem_map.1 hd; exact width_encB m
    (simp (disch := first | decide | omega | (simp only [nx]; first | done | omega)) only [go_sem]; (repeat with_reducible refine aI ?_))
    refine drange_mk ((fl.length + 7) / 8) (fun i => .sl .no (((fl.map encB).drop (8 * i)).take 8)) (fun i T' => OutM T0.next S (((chunks8 fl).take i).map encG2) T') (by (first | (simp (disch := first | decide | omega | (simp only [nx]; first | done | omega)) only [go_sem]; first | done | rfl) | rfl)) (by have := chunkB_seq (S := T) own (fl.map encB) wEs; rwa [List.length_map] at this) ?_ ?_ ?_
    · exact ⟨⟨.full, hsub.ob _ _ (by (first | (simp (disch := first | decide | omega | (simp only [nx]; first | done | omega)) only [go_sem]; first | done | rfl) | rfl)), .inl ⟨rfl, rfl⟩⟩, (hsub0.add hS _).trans hsub, hsub0.next⟩
    · intro i T1 hi hT1 hI
      obtain ⟨own1, h1, h2⟩ := hI.ex
      have hkl := hT1.lt h1
      obtain ⟨hc0, hc8⟩ := chunk8_pos hi
      simp only [chunk8_map]
      generalize hes : ((chunks8 fl).take i).map encG2 = es at *
      have hel : es.length ≤ 1000000 := by rw [← hes, List.length_map, List.length_take]; omega
      have hew : ∀ d ∈ es, d.width = 68 := fun d hd => by rw [← hes] at hd; obtain ⟨m, _, rfl⟩ := List.mem_map.1 hd; exact width_encG2 m
      (simp (disch := first | decide | omega | (simp only [nx]; first | done | omega)) only [go_sem]; (repeat with_reducible refine aI ?_))
      refine ddraw_any (fun S' => S'.ob T0.next = some (.box 36 [.sl own1 es])) 6 (by (first | (simp (disch := first | decide | omega | (simp only [nx]; first | done | omega)) only [go_sem, h1]; first | done | rfl) | rfl)) (by kernel_rfl) ?_
      (refine s_take 0 rfl (by kernel_rfl) (by kernel_rfl) (v := ?v6) (fun S' hz => dquietR_of ?h6) <| s_take 1 rfl (by kernel_rfl) (by kernel_rfl) (v := ?v7) (fun S' hz => dquietR_of ?h7) <| ?k7; (case h6 | h7 => ((simp (disch := first | decide | omega | (simp only [nx]; first | done | omega)) only [go_sem, hz]; (repeat with_reducible refine aI ?_)); first | done | exact rfl | omega)))
      (refine s_take 2 rfl (by kernel_rfl) (by kernel_rfl) (v := ?v8) (fun S' hz => dquietR_of ?h8) ?k8; (case h8 => ((simp (disch := first | decide | omega | (simp only [nx]; first | done | omega)) only [go_sem, hz]; (repeat with_reducible refine aI ?_)); refine dqgo_mk (cloneEs_d .no (chunk8 fl i) hc0 (by omega)) ?_; exact rfl)))
      (refine s_take 3 rfl (by kernel_rfl) (by kernel_rfl) (v := ?v9) (fun S' hz => dquietR_of ?h9) <| s_take 4 rfl (by kernel_rfl) (by kernel_rfl) (v := ?v10) (fun S' hz => dquietR_of ?h10) <| ?k10; (case h9 | h10 => ((simp (disch := first | decide | omega | (simp only [nx]; first | done | omega)) only [go_sem, agg_G, width_encG2, okCell_encG2, cl_encG2, hz]; (repeat with_reducible refine aI ?_)); first | done | exact rfl | omega)))
      (refine s_split [5] (by kernel_rfl) (by simp) ?_; intro j_ hj_; obtain rfl : j_ = 5 := (by simpa using hj_); clear hj_; refine s_op rfl ?_; (simp (disch := first | decide | omega | (simp only [nx]; first | done | omega)) only [go_sem]; (repeat with_reducible refine aI ?_)))
      refine dapp_ms (h2.imp id fun ⟨g, e, _, _, h⟩ => ⟨g, e, h⟩) hel hew (width_encG2 _) ?_
      have hg := hI.keep hT1 h1 26 (es.length + 1)
      refine ⟨hg, ?_⟩
      (refine s_done (by kernel_rfl) ?_; (simp (disch := first | decide | omega | (simp only [nx]; first | done | omega)) only [go_sem, hg]; (repeat with_reducible refine aI ?_)))
      rw [chunks8_take _ hi, List.map_append, hes]
      exact hI.app hT1 hS h1
    · intro T1 hT1 hI
      obtain ⟨own1, h1, h2⟩ := hI.ex
      have et : (chunks8 fl).take ((fl.length + 7) / 8) = chunks8 fl := List.take_of_length_le (by omega)
      rw [et] at h1
      (simp (disch := first | decide | omega | (simp only [nx]; first | done | omega)) only [go_sem, h1]; (repeat with_reducible refine aI ?_))
      refine ⟨?_, hI.sub⟩
      simp only [D.frz, frzL_map, List.map_map, givesM, hfl]
      congr 1
      exact List.map_congr_left fun m _ => frz_encG2 m
end
end Go.Proofs.Ytonncfminojejaa

namespace Go.Proofs.Ytonncfminojejaa
open Go.RowKit
def updN (f : Nat → Nat) (i k : Nat) : Nat → Nat := fun j => if j = i then k else f j
theorem winsD_succ {b : List (List UInt8)} {i : Nat} (h : i < b.length) (wk wc : Nat → Nat) (k c : Nat) : winsD (b.take i) wk wc ++ [.win k 0 b[i].length c] = winsD (b.take (i + 1)) (updN wk i k) (updN wc i c) := by
  have h1 : (b.take i).length = i := by rw [List.length_take]; omega
  have h2 : (b.take (i + 1)).length = i + 1 := by rw [List.length_take]; omega
  unfold winsD
  rw [h1, h2, List.range_succ, List.map_append]
  congr 1
  · refine List.map_congr_left fun j hj => ?_
    have hj := List.mem_range.1 hj
    have e : ∀ n, j < n → (b.take n).getD j [] = b.getD j [] := fun n hn => by
      rw [List.getD_eq_getElem?_getD, List.getD_eq_getElem?_getD, List.getElem?_take, if_pos hn]
    rw [e i hj, e (i + 1) (by omega)]
    simp only [updN]
    rw [if_neg (by omega), if_neg (by omega)]
  · simp only [List.map_cons, List.map_nil, updN, if_true]
    have e : (b.take (i + 1)).getD i [] = b[i] := by
      rw [List.getD_eq_getElem?_getD, List.getElem?_take, if_pos (by omega), List.getElem?_eq_getElem h]; rfl
    rw [e]
theorem winsD_w (l : List (List UInt8)) (wk wc : Nat → Nat) : ∀ d ∈ winsD l wk wc, d.width = 1 := fun d hd => by
  obtain ⟨i, _, rfl⟩ := List.mem_map.1 hd; rfl
theorem own_ne_row {es zs : List D} {c n : Nat} {t : TypeId} (ht : t ≠ 29) : ownOb t es zs c ≠ .row 29 n := by
  unfold ownOb
  cases Nat.beq c 0 with
  | true => intro e; injection e with e; exact ht e
  | false => intro e; cases e
def Wins (b : List (List UInt8)) (i : Nat) (wk wc : Nat → Nat) (T : St) : Prop := ∀ j (h : j < b.length), j < i → ∃ zs, T.ob (wk j) = some (ownOb 5 (b[j].map bD) zs (wc j)) ∧ b[j].length ≤ wc j
theorem Wins.choose {b : List (List UInt8)} {wk wc : Nat → Nat} {T : St} (h : Wins b b.length wk wc T) : ∃ zw : Nat → List D, ∀ j (hj : j < b.length), T.ob (wk j) = some (ownOb 5 (b[j].map bD) (zw j) (wc j)) ∧ b[j].length ≤ wc j :=
  ⟨fun j => if hj : j < b.length then (h j hj hj).choose else [], fun j hj => by simp only [dif_pos hj]; exact (h j hj hj).choose_spec⟩
def IsB (d : D) : Prop := ∃ n : Int, d = .v (.int .u8 n)
theorem set_getD {cs : List D} {p : Nat} (hp : p < cs.length) (x : D) (q : Nat) : (cs.take p ++ [x] ++ cs.drop (p + 1)).getD q undefD = if q = p then x else cs.getD q undefD := by
  have e : cs.take p ++ [x] ++ cs.drop (p + 1) = cs.set p x := by
    rw [List.set_eq_take_append_cons_drop, if_pos hp]; simp
  rw [e, List.getD_eq_getElem?_getD, List.getElem?_set]
  by_cases h : p = q
  · subst h; simp [hp]
  · rw [if_neg h, if_neg (Ne.symm h), List.getD_eq_getElem?_getD]
theorem set_len {cs : List D} {p : Nat} (hp : p < cs.length) (x : D) : (cs.take p ++ [x] ++ cs.drop (p + 1)).length = cs.length := by
  simp only [List.length_append, List.length_take, List.length_drop, List.length_singleton]; omega
def HB (l : List H32) (T : St) : Prop := 0 < l.length → ∃ cs, T.ob St.nil.next = some (.box 44 cs) ∧ l.length * 32 ≤ cs.length ∧ ∀ j, j < l.length → IsB (cs.getD (j * 32) undefD)
def BB (b : List (List UInt8)) (wk : Nat → Nat) (T : St) : Prop := ∀ j (h : j < b.length), 0 < b[j].length → ∃ cs, T.ob (wk j) = some (.box 5 cs) ∧ b[j].length ≤ cs.length ∧ ∀ q, q < b[j].length → IsB (cs.getD q undefD)
theorem HB.of {l : List H32} {zs : List D} {c : Nat} {T : St} (h : T.ob St.nil.next = some (ownOb 44 (l.map encH) zs c)) (hc : l.length ≤ c) : HB l T := fun h0 => by
  rw [ownOb_box (by omega)] at h
  refine ⟨_, h, by rw [List.length_append, flatHs_len]; omega, fun j hj => ?_⟩
  have h1 := hs_at (zs := zs) hj
  have lh := l[j].2
  have h2 : ((flat (l.map encH) ++ zs).drop (j * 32))[0]? = (l[j].1.map bD)[0]? := by
    rw [← h1, List.getElem?_take, if_pos (by omega)]
  have e2 : (l[j].1.map bD)[0]? = some (bD (l[j].1[0]'(by omega))) := by rw [List.getElem?_map, List.getElem?_eq_getElem (by omega)]; rfl
  rw [List.getElem?_drop, Nat.add_zero, e2] at h2
  rw [List.getD_eq_getElem?_getD, h2]
  exact ⟨_, rfl⟩
theorem BB.of {b : List (List UInt8)} {wk wc : Nat → Nat} {T : St} (h : Wins b b.length wk wc T) : BB b wk T := fun j hj h0 => by
  obtain ⟨zs, h1, h2⟩ := h j hj hj
  rw [ownOb_box (by omega), flat_bD2] at h1
  refine ⟨_, h1, by rw [List.length_append, List.length_map]; omega, fun q hq => ?_⟩
  rw [List.getD_eq_getElem?_getD, List.getElem?_append_left (by rw [List.length_map]; exact hq), List.getElem?_map, List.getElem?_eq_getElem hq]
  exact ⟨_, rfl⟩
theorem HB.set {l : List H32} {T : St} {cs : List D} {i : Nat} (hT : T.ob St.nil.next = some (.box 44 cs)) (hl : l.length * 32 ≤ cs.length) (hb : ∀ j, j < l.length → IsB (cs.getD (j * 32) undefD)) (hi : i < l.length) (n : Int) : HB l (T.set St.nil.next (.box 44 (cs.take (i * 32) ++ [D.v (.int .u8 n)] ++ cs.drop (i * 32 + 1)))) := fun _ => by
  refine ⟨cs.take (i * 32) ++ [D.v (.int .u8 n)] ++ cs.drop (i * 32 + 1), by simp [St.set], by rw [set_len (by omega)]; exact hl, fun j hj => ?_⟩
  rw [set_getD (by omega)]
  split
  · exact ⟨n, rfl⟩
  · exact hb j hj
theorem BB.set {b : List (List UInt8)} {wk : Nat → Nat} {T : St} {cs : List D} {k p : Nat} (h : BB b wk T) (hT : T.ob k = some (.box 5 cs)) (hp : p < cs.length) (n : Int) : BB b wk (T.set k (.box 5 (cs.take p ++ [D.v (.int .u8 n)] ++ cs.drop (p + 1)))) := fun j hj h0 => by
  obtain ⟨cs2, h1, h2, h3⟩ := h j hj h0
  by_cases e : wk j = k
  · subst e
    rw [hT] at h1
    injection h1 with h1
    injection h1 with _ h1
    subst h1
    refine ⟨cs.take p ++ [D.v (.int .u8 n)] ++ cs.drop (p + 1), if_pos rfl, by rw [set_len hp]; exact h2, fun q hq => ?_⟩
    rw [set_getD hp]
    split
    · exact ⟨n, rfl⟩
    · exact h3 q hq
  · exact ⟨cs2, (if_neg e).trans h1, h2, h3⟩
theorem BB.other {b : List (List UInt8)} {wk : Nat → Nat} {T : St} {k : Nat} {t : TypeId} {cs cs' : List D} (h : BB b wk T) (hT : T.ob k = some (.box t cs)) (ht : t ≠ 5) : BB b wk (T.set k (.box t cs')) := fun j hj h0 => by
  obtain ⟨cs2, h1, h2, h3⟩ := h j hj h0
  have e : wk j ≠ k := fun e => by
    rw [e, hT] at h1
    injection h1 with h1
    injection h1 with h1 _
    exact ht h1
  exact ⟨cs2, (if_neg e).trans h1, h2, h3⟩
theorem keep_grow {T : St} (hT : T.WF) {own : Own} {n m k : Nat} {o : Ob} (ho : own = .full ∨ ∃ g, own = .row g ∧ T.ob g = some (.row 29 n)) (hk : T.ob k = some o) (hne : o ≠ .row 29 n) : (T.grow own 29 m).ob k = some o := by
  have h3 : k ≠ T.next := by have := hT.lt hk; omega
  rcases ho with rfl | ⟨g, rfl, hg⟩
  · simp [St.grow, St.leave, St.add, h3, hk]
  · have h4 : k ≠ g := fun e => by subst e; rw [hk] at hg; injection hg with hg; exact hne hg
    simp [St.grow, St.leave, St.add, St.drop, h3, h4, hk]
section
set_option maxRecDepth 200000
set_option maxHeartbeats 8000000
theorem own25_at (l : List H32) (b : List (List UInt8)) (hb0 : b.length ≤ 140737488355328) (hb : ∀ x ∈ b, x.length ≤ 140737488355328) : DAt Try.prog 5 [.sl .no (l.map encH), .sl .no (b.map encB)] St.nil (.v (.bool true)) := by
  refine dat_of_dwpL mixed Try.func5 rfl (fun _ _ => by kernel_rfl) (rs := [.tmp 4]) rfl (by kernel_rfl) (by trivial) (fun hS => ?_)
  by_cases hl : l.length > 60
  · have b1 : decide ((l.length : Int) > 60) = true := decide_eq_true (by omega)
    (simp (disch := first | decide | omega | (simp only [nx]; first | done | omega)) only [go_sem, b1]; (repeat with_reducible refine aI ?_))
    refine DCalls.of_pure awake25_d ?_
    (simp (disch := first | decide | omega | (simp only [nx]; first | done | omega)) only [go_sem]; (repeat with_reducible refine aI ?_))
    refine ⟨?_, (by (repeat' first | assumption | exact St.Sub.refl _ | exact RowOk.sub (by assumption) (by assumption) | refine St.Sub.trans ?_ (RowOk.sub (by assumption) (by assumption)) | refine St.Sub.add ?_ ?_ _ | refine St.Sub.set ?_ ?_ ?_ _ | refine St.Sub.keep ?_ ?_ | refine St.WF.leave ?_ _ | refine St.WF.add ?_ _ | refine St.WF.set ?_ ?_ _ | refine St.WF.grow ?_ _ _ _ | refine St.WF.keep ?_ ?_ | (first | omega | (simp only [RowOk.lo, nx]; first | done | omega))))⟩
    rfl
  have b1 : decide ((l.length : Int) > 60) = false := decide_eq_false (by omega)
  by_cases hbl : b.length > 60
  · have b2 : decide ((b.length : Int) > 60) = true := decide_eq_true (by omega)
    (simp (disch := first | decide | omega | (simp only [nx]; first | done | omega)) only [go_sem, b1, b2]; (repeat with_reducible refine aI ?_))
    refine DCalls.of_pure awake25_d ?_
    (simp (disch := first | decide | omega | (simp only [nx]; first | done | omega)) only [go_sem]; (repeat with_reducible refine aI ?_))
    refine ⟨?_, (by (repeat' first | assumption | exact St.Sub.refl _ | exact RowOk.sub (by assumption) (by assumption) | refine St.Sub.trans ?_ (RowOk.sub (by assumption) (by assumption)) | refine St.Sub.add ?_ ?_ _ | refine St.Sub.set ?_ ?_ ?_ _ | refine St.Sub.keep ?_ ?_ | refine St.WF.leave ?_ _ | refine St.WF.add ?_ _ | refine St.WF.set ?_ ?_ _ | refine St.WF.grow ?_ _ _ _ | refine St.WF.keep ?_ ?_ | (first | omega | (simp only [RowOk.lo, nx]; first | done | omega))))⟩
    rfl
  have b2 : decide ((b.length : Int) > 60) = false := decide_eq_false (by omega)
  (simp (disch := first | decide | omega | (simp only [nx]; first | done | omega)) only [go_sem, b1, b2, agg_X0, width_encX, okCell_encX]; (repeat with_reducible refine aI ?_))
  refine dcalls_argfrz ?_
  have e : frzL [encX 0 (.sl .full []) (.sl .no (b.map encB))] = [encMs ⟨0, false, zF, [], b⟩] := by
    simp only [frzL, encX, encMs, msCs, msT, frz_agg, D.frz, frzL_append, frz_bB, frz_Es, List.map_nil]
  rw [e]
  refine DCalls.of_pure (great25_d ⟨0, false, zF, [], b⟩ hb0 hb) ?_
  cases hgr : greatM ⟨0, false, zF, [], b⟩ with
  | true =>
    (simp (disch := first | decide | omega | (simp only [nx]; first | done | omega)) only [go_sem]; (repeat with_reducible refine aI ?_))
    refine DCalls.of_pure awake25_d ?_
    (simp (disch := first | decide | omega | (simp only [nx]; first | done | omega)) only [go_sem]; (repeat with_reducible refine aI ?_))
    refine ⟨?_, (by (repeat' first | assumption | exact St.Sub.refl _ | exact RowOk.sub (by assumption) (by assumption) | refine St.Sub.trans ?_ (RowOk.sub (by assumption) (by assumption)) | refine St.Sub.add ?_ ?_ _ | refine St.Sub.set ?_ ?_ ?_ _ | refine St.Sub.keep ?_ ?_ | refine St.WF.leave ?_ _ | refine St.WF.add ?_ _ | refine St.WF.set ?_ ?_ _ | refine St.WF.grow ?_ _ _ _ | refine St.WF.keep ?_ ?_ | (first | omega | (simp only [RowOk.lo, nx]; first | done | omega))))⟩
    rfl
  | false =>
    obtain ⟨g1, g2, g3, g4⟩ := great_no hgr
    (simp (disch := first | decide | omega | (simp only [nx]; first | done | omega)) only [go_sem]; (repeat with_reducible refine aI ?_))
    refine dapp_nil elHs (dappend_fresh elHs (by rw [elHs]; rfl) zeHs zoHs (es2 := l.map encH) (srcOk_sl (by rw [szHs]; exact wHs l)) rfl (by rw [List.length_map]; omega) (by rw [List.length_map, byHs]; omega) fun c zs h1 h2 => ?_)
    rw [List.length_map] at h1
    rw [szHs] at h2
    (simp (disch := first | decide | omega | (simp only [nx]; first | done | omega)) only [go_sem]; (repeat with_reducible refine aI ?_))
    have hT0 : (St.nil.add (ownOb 44 (l.map encH) zs c)).WF := hS.add _
    refine dloop_up (fun t => List.contains [6, 7, 30, 31, 32, 33, 34, 35, 36, 37, 38, 39, 40, 41, 42, 43, 44] t) (by kernel_rfl) (by exact hT0) b.length (fun i q T => i ≤ b.length ∧ q 7 = .v (.int .i64 ((i : Nat) : Int)) ∧ T.ob St.nil.next = some (ownOb 44 (l.map encH) zs c) ∧ ∃ own wk wc, q 6 = .sl own (winsD (b.take i) wk wc) ∧ ((own = .full ∧ i = 0) ∨ ∃ g, own = .row g ∧ T.ob g = some (.row 29 i)) ∧ Wins b i wk wc T)
      ⟨by omega, by (first | (simp (disch := first | decide | omega | (simp only [nx]; first | done | omega)) only [go_sem]; first | done | rfl) | rfl), by (first | (simp (disch := first | decide | omega | (simp only [nx]; first | done | omega)) only [go_sem]; first | done | rfl) | rfl), .full, id, id, by (first | (simp (disch := first | decide | omega | (simp only [nx]; first | done | omega)) only [go_sem]; first | done | rfl) | rfl), .inl ⟨rfl, rfl⟩, fun j _ h => absurd h (by omega)⟩ ?_
    rintro i q T hT hg ⟨le, q7, th, own, wk, wc, q6, ho, hw⟩
    (have q0 := hg 0 rfl; have q1 := hg 1 rfl; have q4 := hg 4 rfl; have q5 := hg 5 rfl; simp (disch := first | decide | omega | (simp only [nx]; first | done | omega)) only [go_sem] at q0 q1 q4 q5; clear hg)
    have hlen : (winsD (b.take i) wk wc).length = i := by rw [winsD_len, List.length_take]; omega
    by_cases hlt : i < b.length
    · have c1 : decide ((i : Int) < (b.length : Int)) = true := decide_eq_true (by omega)
      have w1 : IntKind.i64.wrap ((i : Int) + 1) = ((i + 1 : Nat) : Int) := IntWalk.i64_in _ ⟨by omega, by omega⟩
      have ce := cells_encB b[i]
      have hbi := g2 _ (List.getElem_mem hlt)
      (simp (disch := first | decide | omega | (simp only [nx]; first | done | omega)) only [go_sem, q1, q6, q7, c1, hlt, ce]; (repeat with_reducible refine aI ?_))
      refine dapp_nil elBy (dappend_fresh elBy (by rw [elBy]; rfl) zeBy zoBy (es2 := b[i].map bD) (srcOk_sl (by rw [szBy]; exact wBy _)) rfl (by rw [List.length_map]; omega) (by rw [List.length_map, byBy]; omega) fun c2 zs2 h3 h4 => ?_)
      rw [List.length_map] at h3
      (simp (disch := first | decide | omega | (simp only [nx]; first | done | omega)) only [go_sem, q6, q7]; (repeat with_reducible refine aI ?_))
      have hTa := hT.add (ownOb 5 (b[i].map bD) zs2 c2)
      have hrow : (own = .full ∧ winsD (b.take i) wk wc = []) ∨ ∃ g, own = .row g ∧ (T.add (ownOb 5 (b[i].map bD) zs2 c2)).ob g = some (.row 29 (winsD (b.take i) wk wc).length) := by
        rcases ho with ⟨h, rfl⟩ | ⟨g, h, hg⟩
        · exact .inl ⟨h, rfl⟩
        · exact .inr ⟨g, h, by rw [hlen]; exact add_keep hT _ g _ hg⟩
      refine dapp_es hrow (by omega) (winsD_w _ _ _) rfl ?_
      rw [hlen, winsD_succ hlt]
      have hor : own = .full ∨ ∃ g, own = .row g ∧ (T.add (ownOb 5 (b[i].map bD) zs2 c2)).ob g = some (.row 29 i) := by
        rcases ho with ⟨h, _⟩ | ⟨g, h, hg⟩
        · exact .inl h
        · exact .inr ⟨g, h, add_keep hT _ g _ hg⟩
      have kg := fun {k o} => keep_grow (k := k) (o := o) (m := i + 1) hTa hor
      have hrn : ((T.add (ownOb 5 (b[i].map bD) zs2 c2)).grow own 29 (i + 1)).ob (T.add (ownOb 5 (b[i].map bD) zs2 c2)).next = some (.row 29 (i + 1)) := by
        rcases hor with rfl | ⟨g, rfl, _⟩ <;> simp [St.grow, St.leave, St.add, St.drop]
      (simp (disch := first | decide | omega | (simp only [nx]; first | done | omega)) only [go_sem, q6, q7, w1]; (repeat with_reducible refine aI ?_))
      refine ⟨by omega, _, fun _ _ h => h, by omega, by (first | (simp (disch := first | decide | omega | (simp only [nx]; first | done | omega)) only [go_sem, w1]; first | done | rfl) | rfl), kg (add_keep hT _ _ _ th) (own_ne_row (by decide)), _, updN wk i T.next, updN wc i c2, by (first | (simp (disch := first | decide | omega | (simp only [nx]; first | done | omega)) only [go_sem]; first | done | rfl) | rfl), .inr ⟨_, rfl, hrn⟩, fun j hj hji => ?_⟩
      by_cases e : j = i
      · subst e
        refine ⟨zs2, ?_, ?_⟩
        · simp only [updN, if_true]
          exact kg (by (first | (simp (disch := first | decide | omega | (simp only [nx]; first | done | omega)) only [go_sem]; first | done | rfl) | rfl)) (own_ne_row (by decide))
        · simp only [updN, if_true]; exact h3
      · obtain ⟨zs3, h5, h6⟩ := hw j hj (by omega)
        refine ⟨zs3, ?_, ?_⟩
        · simp only [updN, if_neg e]
          exact kg (add_keep hT _ _ _ h5) (own_ne_row (by decide))
        · simp only [updN, if_neg e]; exact h6
    · have c1 : decide ((i : Int) < (b.length : Int)) = false := decide_eq_false (by omega)
      obtain rfl : i = b.length := by omega
      rw [List.take_length] at q6
      (simp (disch := first | decide | omega | (simp only [nx]; first | done | omega)) only [go_sem, q0, q1, q5, q6, q7, c1]; (repeat with_reducible refine aI ?_))
      obtain ⟨zw, hzw⟩ := Wins.choose hw
      refine go_at (wantsW_at th h1 (by omega)) ?_
      (simp (disch := first | decide | omega | (simp only [nx]; first | done | omega)) only [go_sem, q6]; (repeat with_reducible refine aI ?_))
      refine go_at (givesW_at b wk wc zw (by omega) hzw) ?_
      (simp (disch := first | decide | omega | (simp only [nx]; first | done | omega)) only [go_sem, q5, q6]; (repeat with_reducible refine aI ?_))
      refine dloop_up (fun t => List.contains [10, 49, 50, 51, 52, 53, 54, 55, 56, 57, 58, 59, 60, 61, 62, 63, 64] t) (by kernel_rfl) (by exact hT) l.length (fun i q T => i ≤ l.length ∧ q 10 = .v (.int .i64 ((i : Nat) : Int)) ∧ HB l T ∧ BB b wk T)
        ⟨by omega, by (first | (simp (disch := first | decide | omega | (simp only [nx]; first | done | omega)) only [go_sem]; first | done | rfl) | rfl), HB.of th h1, BB.of hw⟩ ?_
      rintro i2 y Y hY hgy ⟨ley, q10y, yh, yb⟩
      (have q0y := hgy 0 rfl; have q1y := hgy 1 rfl; have q4y := hgy 4 rfl; have q5y := hgy 5 rfl; have q6y := hgy 6 rfl; have q8y := hgy 8 rfl; have q9y := hgy 9 rfl; simp (disch := first | decide | omega | (simp only [nx]; first | done | omega)) only [go_sem, q0, q1, q5, q6] at q0y q1y q4y q5y q6y q8y q9y; clear hgy)
      by_cases hlt2 : i2 < l.length
      · have c2 : decide ((i2 : Int) < (l.length : Int)) = true := decide_eq_true (by omega)
        have w2 : IntKind.i64.wrap ((i2 : Int) + 1) = ((i2 + 1 : Nat) : Int) := IntWalk.i64_in _ ⟨by omega, by omega⟩
        obtain ⟨cs, hcs, hcl, hcb⟩ := yh (by omega)
        obtain ⟨n, hn⟩ := hcb i2 hlt2
        (simp (disch := first | decide | omega | (simp only [nx]; first | done | omega)) only [go_sem, q5y, q10y, c2]; (repeat with_reducible refine aI ?_))
        refine ddraw_any (fun S' => S'.ob St.nil.next = some (.box 44 cs)) 10 (by (first | (simp (disch := first | decide | omega | (simp only [nx]; first | done | omega)) only [go_sem, hcs]; first | done | rfl) | rfl)) (by kernel_rfl) ?_
        (refine s_take 0 rfl (by kernel_rfl) (by kernel_rfl) (v := ?v1) (fun S' hz => dquietR_of ?h1) <| s_take 1 rfl (by kernel_rfl) (by kernel_rfl) (v := ?v2) (fun S' hz => dquietR_of ?h2) <| s_take 2 rfl (by kernel_rfl) (by kernel_rfl) (v := ?v3) (fun S' hz => dquietR_of ?h3) <| s_take 3 rfl (by kernel_rfl) (by kernel_rfl) (v := ?v4) (fun S' hz => dquietR_of ?h4) <| s_take 4 rfl (by kernel_rfl) (by kernel_rfl) (v := ?v5) (fun S' hz => dquietR_of ?h5) <| s_take 5 rfl (by kernel_rfl) (by kernel_rfl) (v := ?v6) (fun S' hz => dquietR_of ?h6) <| s_take 6 rfl (by kernel_rfl) (by kernel_rfl) (v := ?v7) (fun S' hz => dquietR_of ?h7) <| s_take 7 rfl (by kernel_rfl) (by kernel_rfl) (v := ?v8) (fun S' hz => dquietR_of ?h8) <| s_take 8 rfl (by kernel_rfl) (by kernel_rfl) (v := ?v9) (fun S' hz => dquietR_of ?h9) <| s_take 9 rfl (by kernel_rfl) (by kernel_rfl) (v := ?v10) (fun S' hz => dquietR_of ?h10) <| ?k10; (case h1 | h2 | h3 | h4 | h5 | h6 | h7 | h8 | h9 | h10 => ((simp (disch := first | decide | omega | (simp only [nx]; first | done | omega)) only [go_sem, q5y, q10y, hlt2, hn, hz]; (repeat with_reducible refine aI ?_)); first | done | exact rfl | omega)))
        (refine s_done (by kernel_rfl) ?_; (simp (disch := first | decide | omega | (simp only [nx]; first | done | omega)) only [go_sem, hcs, q10y, w2]; (repeat with_reducible refine aI ?_)))
        exact ⟨by omega, _, fun _ _ h => h, by omega, by (first | (simp (disch := first | decide | omega | (simp only [nx]; first | done | omega)) only [go_sem, w2]; first | done | rfl) | rfl), HB.set hcs hcl hcb hlt2 _, BB.other yb hcs (by decide)⟩
      · have c2 : decide ((i2 : Int) < (l.length : Int)) = false := decide_eq_false (by omega)
        have wl := winsD_len b wk wc
        (simp (disch := first | decide | omega | (simp only [nx]; first | done | omega)) only [go_sem, q5y, q10y, c2]; (repeat with_reducible refine aI ?_))
        refine dloop_up (fun t => List.contains [11, 12, 65, 66, 67, 68, 69, 70, 71, 72, 73, 74, 75, 76, 77, 78, 79, 80, 81, 82, 83, 84, 85, 86, 87, 88, 89, 90, 91, 92, 93] t) (by kernel_rfl) (by exact hY) b.length (fun i q T => i ≤ b.length ∧ q 11 = .v (.int .i64 ((i : Nat) : Int)) ∧ BB b wk T)
          ⟨by omega, by (first | (simp (disch := first | decide | omega | (simp only [nx]; first | done | omega)) only [go_sem]; first | done | rfl) | rfl), yb⟩ ?_
        rintro i3 z Z hZ hgz ⟨lez, q11z, zb⟩
        (have q0z := hgz 0 rfl; have q1z := hgz 1 rfl; have q4z := hgz 4 rfl; have q6z := hgz 6 rfl; have q8z := hgz 8 rfl; have q9z := hgz 9 rfl; simp (disch := first | decide | omega | (simp only [nx]; first | done | omega)) only [go_sem, q0y, q1y, q6y, q8y, q9y] at q0z q1z q4z q6z q8z q9z; clear hgz)
        by_cases hlt3 : i3 < b.length
        · have c3 : decide ((i3 : Int) < (b.length : Int)) = true := decide_eq_true (by omega)
          have w3 : IntKind.i64.wrap ((i3 : Int) + 1) = ((i3 + 1 : Nat) : Int) := IntWalk.i64_in _ ⟨by omega, by omega⟩
          have hb3 := g2 _ (List.getElem_mem hlt3)
          have wa := winsD_getD b wk wc hlt3
          have ce : (D.win (wk i3) 0 b[i3].length (wc i3)).cells.length = 1 := rfl
          have ce2 : (D.win (wk i3) 0 b[i3].length (wc i3)).cells.getD 0 undefD = D.win (wk i3) 0 b[i3].length (wc i3) := rfl
          (simp (disch := first | decide | omega | (simp only [nx]; first | done | omega)) only [go_sem, q6z, q11z, wl, c3]; (repeat with_reducible refine aI ?_))
          refine dloop_up (fun t => List.contains [12, 71, 72, 73, 74, 75, 76, 77, 78, 79, 80, 81, 82, 83, 84, 85, 86, 87, 88, 89, 90, 91, 92, 93] t) (by kernel_rfl) (by exact hZ) b[i3].length (fun k q T => k ≤ b[i3].length ∧ q 12 = .v (.int .i64 ((k : Nat) : Int)) ∧ BB b wk T)
            ⟨by omega, by (first | (simp (disch := first | decide | omega | (simp only [nx]; first | done | omega)) only [go_sem]; first | done | rfl) | rfl), zb⟩ ?_
          rintro k4 v V hV hgv ⟨lev, q12v, vb⟩
          (have q0v := hgv 0 rfl; have q1v := hgv 1 rfl; have q4v := hgv 4 rfl; have q6v := hgv 6 rfl; have q8v := hgv 8 rfl; have q9v := hgv 9 rfl; have q11v := hgv 11 rfl; simp (disch := first | decide | omega | (simp only [nx]; first | done | omega)) only [go_sem, q6z, q11z] at q0v q1v q4v q6v q8v q9v q11v; clear hgv)
          by_cases hlt4 : k4 < b[i3].length
          · have c4 : decide ((k4 : Int) < (b[i3].length : Int)) = true := decide_eq_true (by omega)
            have w4 : IntKind.i64.wrap ((k4 : Int) + 1) = ((k4 + 1 : Nat) : Int) := IntWalk.i64_in _ ⟨by omega, by omega⟩
            obtain ⟨cs, hcs, hcl, hcb⟩ := vb i3 hlt3 (by omega)
            obtain ⟨n, hn⟩ := hcb k4 hlt4
            (simp (disch := first | decide | omega | (simp only [nx]; first | done | omega)) only [go_sem, q6v, q11v, q12v, wl, wa, ce, ce2, hlt3, c4]; (repeat with_reducible refine aI ?_))
            refine ddraw_any (fun S' => S'.ob (wk i3) = some (.box 5 cs)) 14 (by (first | (simp (disch := first | decide | omega | (simp only [nx]; first | done | omega)) only [go_sem, hcs]; first | done | rfl) | rfl)) (by kernel_rfl) ?_
            have hn1 : cs.getD (k4 * 1) undefD = .v (.int .u8 n) := by rw [Nat.mul_one]; exact hn
            (refine s_take 0 rfl (by kernel_rfl) (by kernel_rfl) (v := ?v11) (fun S' hz => dquietR_of ?h11) <| s_take 1 rfl (by kernel_rfl) (by kernel_rfl) (v := ?v12) (fun S' hz => dquietR_of ?h12) <| s_take 2 rfl (by kernel_rfl) (by kernel_rfl) (v := ?v13) (fun S' hz => dquietR_of ?h13) <| s_take 3 rfl (by kernel_rfl) (by kernel_rfl) (v := ?v14) (fun S' hz => dquietR_of ?h14) <| s_take 4 rfl (by kernel_rfl) (by kernel_rfl) (v := ?v15) (fun S' hz => dquietR_of ?h15) <| s_take 5 rfl (by kernel_rfl) (by kernel_rfl) (v := ?v16) (fun S' hz => dquietR_of ?h16) <| s_take 6 rfl (by kernel_rfl) (by kernel_rfl) (v := ?v17) (fun S' hz => dquietR_of ?h17) <| s_take 7 rfl (by kernel_rfl) (by kernel_rfl) (v := ?v18) (fun S' hz => dquietR_of ?h18) <| s_take 8 rfl (by kernel_rfl) (by kernel_rfl) (v := ?v19) (fun S' hz => dquietR_of ?h19) <| s_take 9 rfl (by kernel_rfl) (by kernel_rfl) (v := ?v20) (fun S' hz => dquietR_of ?h20) <| s_take 10 rfl (by kernel_rfl) (by kernel_rfl) (v := ?v21) (fun S' hz => dquietR_of ?h21) <| s_take 11 rfl (by kernel_rfl) (by kernel_rfl) (v := ?v22) (fun S' hz => dquietR_of ?h22) <| s_take 12 rfl (by kernel_rfl) (by kernel_rfl) (v := ?v23) (fun S' hz => dquietR_of ?h23) <| s_take 13 rfl (by kernel_rfl) (by kernel_rfl) (v := ?v24) (fun S' hz => dquietR_of ?h24) <| ?k24; (case h11 | h12 | h13 | h14 | h15 | h16 | h17 | h18 | h19 | h20 | h21 | h22 | h23 | h24 => ((simp (disch := first | decide | omega | (simp only [nx]; first | done | omega)) only [go_sem, q6v, q11v, q12v, wl, wa, ce, ce2, hlt3, hlt4, hn1, hz]; (repeat with_reducible refine aI ?_)); first | done | exact rfl | omega)))
            (refine s_done (by kernel_rfl) ?_; (simp (disch := first | decide | omega | (simp only [nx]; first | done | omega)) only [go_sem, hcs, q12v, w4]; (repeat with_reducible refine aI ?_)))
            exact ⟨by omega, _, fun _ _ h => h, by omega, by (first | (simp (disch := first | decide | omega | (simp only [nx]; first | done | omega)) only [go_sem, w4]; first | done | rfl) | rfl), BB.set vb hcs (by omega) _⟩
          · have c4 : decide ((k4 : Int) < (b[i3].length : Int)) = false := decide_eq_false (by omega)
            (simp (disch := first | decide | omega | (simp only [nx]; first | done | omega)) only [go_sem, q6v, q11v, q12v, wl, wa, ce, ce2, hlt3, c4, w3]; (repeat with_reducible refine aI ?_))
            exact ⟨by omega, _, fun _ _ h => h, by omega, by (first | (simp (disch := first | decide | omega | (simp only [nx]; first | done | omega)) only [go_sem, w3]; first | done | rfl) | rfl), vb⟩
        · have c3 : decide ((i3 : Int) < (b.length : Int)) = false := decide_eq_false (by omega)
          (simp (disch := first | decide | omega | (simp only [nx]; first | done | omega)) only [go_sem, q6z, q11z, wl, c3, q0z, q1z, q8z, q9z]; (repeat with_reducible refine aI ?_))
          have hwl := wantsM_len l
          have hgl := givesM_len b
          refine DCalls.of_pure (rwants_d .no l (by omega)) ?_
          (simp (disch := first | decide | omega | (simp only [nx]; first | done | omega)) only [go_sem, q8z, q9z, q1z]; (repeat with_reducible refine aI ?_))
          refine DCalls.of_pure (all25_d .no .no (wantsM l) (wantsM l) (by omega) (fun m hm => Nat.le_trans (right_es (rights_w l m hm)).1 (by omega)) (fun m hm => Nat.le_trans (right_es (rights_w l m hm)).2.1 (by omega))) ?_
          rw [decide_eq_true rfl]
          (simp (disch := first | decide | omega | (simp only [nx]; first | done | omega)) only [go_sem, q8z, q9z, q1z]; (repeat with_reducible refine aI ?_))
          refine DCalls.of_pure (rgives_d .no b (by omega)) ?_
          (simp (disch := first | decide | omega | (simp only [nx]; first | done | omega)) only [go_sem, q8z, q9z, q1z]; (repeat with_reducible refine aI ?_))
          refine DCalls.of_pure (all25_d .no .no (givesM b) (givesM b) (by omega) (fun m hm => Nat.le_trans (right_es (rights_g b m hm)).1 (by omega)) (fun m hm => Nat.le_trans (right_es (rights_g b m hm)).2.1 (by omega))) ?_
          rw [decide_eq_true rfl]
          (simp (disch := first | decide | omega | (simp only [nx]; first | done | omega)) only [go_sem]; (repeat with_reducible refine aI ?_))
          refine DCalls.of_pure awake25_d ?_
          (simp (disch := first | decide | omega | (simp only [nx]; first | done | omega)) only [go_sem]; (repeat with_reducible refine aI ?_))
          exact ⟨rfl, Nat.zero_le _, fun _ _ h => by cases h⟩
theorem own25_d (l : List H32) (b : List (List UInt8)) (hb0 : b.length ≤ 140737488355328) (hb : ∀ x ∈ b, x.length ≤ 140737488355328) : DPure Try.prog 5 [.sl .no (l.map encH), .sl .no (b.map encB)] (.v (.bool true)) :=
  dpure_nil ⟨closed_Hs l, closed_Es b, trivial⟩ (own25_at l b hb0 hb)
end
end Go.Proofs.Ytonncfminojejaa

namespace Go.Proofs.Ytonncfminojejaa
open Go.ChangeShapes Go.WideShapes Go.ChangeAt Go.RowKit
theorem messageOwn_own : ownKnob Try.prog.godebug = none := by kernel_rfl
theorem messageOwn_laidOut : laidOutB Try.prog = true := by kernel_rfl
set_option maxRecDepth 100000 in
theorem messageOwn_lifted (os : Os) (started : os.Started) (H : Type) (enc : TypeId × Value → H) :
    ReturnsInHanded {} Try.checked os 5 .any (Rows.messageOwnSpec.pre6 enc Try.prog Try.f5 Rows.messageOwnRow.domain false) (Rows.messageOwnSpec.post enc Try.prog Try.f5 false true false false) := by
  refine returnsInHanded_of_change_sized (C := Try.checked) messageOwn_own started (by kernel_rfl) Try.func5
    (ChangeSpec.witness6 (enc := enc) (C := Try.checked) false ⟨#[], #[.slice none 0 0, .slice none 0 0], []⟩ 8 (by kernel_rfl) (by kernel_rfl) (by kernel_rfl) (by kernel_rfl)) ?_
  intro W base args ds gs before hval0 hW hcnd hsz0 _
  have hval : ∀ (j : Nat) t v, Try.f5.params[j]? = some t → args[j]? = some v → Value.okWide Try.prog W .any base t v := hval0
  have hsz : (DataW.weightsEach Try.prog (Try.f5.params.toList ++ Rows.messageOwnSpec.plain.varTypes Try.prog) (ds ++ gs)).all (· ≤ reachBytes) = true := hsz0
  have hW' := hW
  obtain ⟨p, q, hA0, hV, rfl, hfz, hnd⟩ := hW
  have hA : DataW.TrodAll enc Try.prog W 0 (fun _ => true) true Try.f5.params.toList args.toList ds p := hA0
  obtain ⟨rfl, rfl⟩ := trodVars_none hV
  rw [Try.params5] at hA hval hsz
  have hA1 := hA
  obtain ⟨v0, vs0, d0, ds0, p0, q0, hargs, rfl, rfl, h0, r0⟩ := trodAll_cons hA
  obtain ⟨v1, vs1, d1, ds1, p1, q1, rfl, rfl, rfl, h1, r1⟩ := trodAll_cons r0
  obtain ⟨rfl, rfl, rfl⟩ := trodAll_nil r1
  obtain rfl : args = #[v0, v1] := by cases args; simp_all
  have z0 : Sized Try.prog 23 d0 := sized_of_each (j := 0) hsz rfl rfl
  have k0 : Value.okWide Try.prog W .any base 23 v0 := hval 0 _ _ rfl rfl
  have z1 : Sized Try.prog 24 d1 := sized_of_each (j := 1) hsz rfl rfl
  have k1 : Value.okWide Try.prog W .any base 24 v1 := hval 1 _ _ rfl rfl
  clear hA0 hval0 hsz hsz0 hval
  have key : Calls Try.prog 5 #[v0, v1] W (Gives (.bool true) W) := by
    obtain ⟨l, _, hl⟩ := open_names h0 z0 k0
    obtain ⟨b, hb, hb0, hbr⟩ := open_ess h1 z1 k1
    exact gives_of_dpure (vs := [v0, v1]) (own25_d l b (by omega) fun x hx => by have := hb x hx; omega) (by simp only [RepL]; exact ⟨_, _, rfl, hl _ _ fix_nil, _, _, rfl, hbr _ _ fix_nil, rfl⟩)
  refine key.mono fun e W' ⟨he, bel⟩ => ?_
  subst he
  exact ⟨_, rfl, _, _, _, [], _, [], hW', trodAll_mk1 (shut_bool Try.underlying4 _), trodAll_below messageOwn_laidOut bel (by kernel_rfl) hA1, rfl, bel.frame _, fun h => by cases h⟩

theorem messageOwn_holds : Rows.MessageOwnSaid :=
  OpenClaim.holds_of_wide 5 Try.f5 rfl rfl rfl rfl rfl rfl rfl ⟨rfl, rfl, rfl, rfl, rfl⟩ rfl rfl rfl rfl rfl (by kernel_rfl) Try.func5 (by kernel_rfl)
    (of_decide_eq_true (by kernel_rfl)) (by unfold Func.isWrapper; first | (rw [if_pos (by decide +kernel)]; kernel_rfl) | (rw [if_neg (by decide +kernel)]; exact ⟨rfl, rfl⟩))
    (fun os started H enc _ => messageOwn_lifted os started H enc)
#print axioms messageOwn_holds
end Go.Proofs.Ytonncfminojejaa
