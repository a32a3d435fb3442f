/- Texts of a proof, part 5. Conditions: none. -/
import Derived.Test.YtbcabejdchkpmaaDoorR4
set_option linter.unusedVariables false
set_option linter.unusedSimpArgs false
namespace Go.Proofs.YtbcabejdchkpmaaDoor
open Go.RowKit
def ErrAt (k : Nat) (c p : Int) (T : St) (e : D) : Prop := (c = 0 ∧ e = .v .nilIface) ∨ (c ≠ 0 ∧ ∃ b, b ≠ k ∧ e = atD b ∧ T.ob b = some (.box 93 [.v (.int .i64 p), erD c]))
def EAt (k : Nat) (l : List UInt8) (x : Rst) (T : St) : Prop := ∃ own e, T.ob k = some (.box 64 [.sl own (l.map bD), .v (.int .i64 (x.1 : Int)), e]) ∧ ErrAt k x.2.1 x.2.2 T e
theorem ErrAt.keep {k : Nat} {c p : Int} {S T : St} {e : D} (h : ErrAt k c p S e) (hb : ∀ j o, j ≠ k → S.ob j = some o → T.ob j = some o) : ErrAt k c p T e := by
  rcases h with h | ⟨h1, b, h2, h3, h4⟩
  · exact .inl h
  · exact .inr ⟨h1, b, h2, h3, hb b _ h2 h4⟩
theorem EAt.keep {k : Nat} {l : List UInt8} {x : Rst} {S T : St} (h : EAt k l x S) (hb : ∀ j o, S.ob j = some o → T.ob j = some o) : EAt k l x T := by
  obtain ⟨own, e, h1, h2⟩ := h
  exact ⟨own, e, hb _ _ h1, h2.keep fun j o _ => hb j o⟩
def exD : Except Int Nat → D
  | .ok s => .tup [.v (.int .i64 (s : Int)), .v (.int .i64 0)]
  | .error c => .tup [.v (.int .i64 0), .v (.int .i64 c)]
section
set_option maxRecDepth 200000
set_option maxHeartbeats 8000000
theorem fail_x {S : St} {k : Nat} {l : List UInt8} {x : Rst} (c : Int) (hr : EAt k l x S) :
    DCalls Tryd.prog 6 [.loc k 0, .v (.int .i64 c)] S fun d T => d = undefD ∧ EAt k l (nxt x (faE c)) T ∧ RFr k S T := by
  obtain ⟨i, e, p⟩ := x
  obtain ⟨own, er, h1, h2⟩ := hr
  refine dcalls_inline mixed Tryd.func6 rfl (fun _ _ => by kernel_rfl) (rs := []) rfl (by kernel_rfl) (fun hS => ?_)
  have hk := hS.lt h1
  rcases h2 with ⟨h2, rfl⟩ | ⟨h2, b, h3, rfl, h4⟩
  · simp only at h2
    subst h2
    by_cases hc : c = 0
    · subst hc
      have b2 : ((0 : Int) != 0) = false := by decide
      (simp (disch := first | decide | omega | (simp only [nx]; first | done | omega)) only [go_sem, h1, b2]; (repeat with_reducible refine aI ?_))
      exact ⟨⟨own, _, h1, .inl ⟨rfl, rfl⟩⟩, RFr.refl _ _⟩
    · have b2 : (c != 0) = true := by simpa using hc
      (simp (disch := first | decide | omega | (simp only [nx]; first | done | omega)) only [go_sem, h1, b2]; (repeat with_reducible refine aI ?_))
      refine wrap_at ?_
      have h5 : (S.add (.box 93 [.v (.int .i64 (i : Int)), .ifc 25 (.v (.int .i64 c))])).ob k = some (.box 64 [.sl own (l.map bD), .v (.int .i64 (i : Int)), .v .nilIface]) := by rw [add_ne hk, h1]
      (simp (disch := first | decide | omega | (simp only [nx]; first | done | omega)) only [go_sem, h5]; (repeat with_reducible refine aI ?_))
      refine ⟨?_, ⟨Nat.le_succ _, fun j o hj e => ?_⟩⟩
      · simp only [faE, if_neg hc, nxt, if_true]
        refine ⟨own, atD S.next, set_eq, .inr ⟨hc, S.next, by omega, rfl, ?_⟩⟩
        rw [set_ne (by omega), add_eq]
      · have := hS.lt e
        rw [set_ne hj, add_ne this, e]
  · simp only at h2
    (simp (disch := first | decide | omega | (simp only [nx]; first | done | omega)) only [go_sem, h1]; (repeat with_reducible refine aI ?_))
    rw [nuE_no (x := (i, e, p)) h2]
    exact ⟨⟨own, _, h1, .inr ⟨h2, b, h3, rfl, h4⟩⟩, RFr.refl _ _⟩
theorem EAt.nil {k : Nat} {l : List UInt8} {x : Rst} {S : St} (h : EAt k l x S) (hc : x.2.1 = 0) : ∃ own, S.ob k = some (.box 64 [.sl own (l.map bD), .v (.int .i64 (x.1 : Int)), .v .nilIface]) := by
  obtain ⟨own, e, h1, h2 | h2⟩ := h
  · obtain ⟨_, rfl⟩ := h2; exact ⟨own, h1⟩
  · exact absurd hc h2.1
theorem at_x {S : St} {k : Nat} {l : List UInt8} {x : Rst} (hr : EAt k l x S) : DCalls Tryd.prog 14 [.loc k 0] S fun d T => d = .v (.int .i64 (x.1 : Int)) ∧ T = S := by
  obtain ⟨own, e, h1, h2⟩ := hr
  refine dcalls_inline mixed Tryd.func14 rfl (fun _ _ => by kernel_rfl) (rs := [.tmp 2]) rfl (by kernel_rfl) (fun hS => ?_)
  (simp (disch := first | decide | omega | (simp only [nx]; first | done | omega)) only [go_sem, h1]; (repeat with_reducible refine aI ?_))
theorem err_x {S : St} {k : Nat} {l : List UInt8} {x : Rst} (hr : EAt k l x S) : DCalls Tryd.prog 16 [.loc k 0] S fun d T => ErrAt k x.2.1 x.2.2 S d ∧ T = S := by
  obtain ⟨own, e, h1, h2⟩ := hr
  refine dcalls_inline mixed Tryd.func16 rfl (fun _ _ => by kernel_rfl) (rs := [.tmp 2]) rfl (by kernel_rfl) (fun hS => ?_)
  (simp (disch := first | decide | omega | (simp only [nx]; first | done | omega)) only [go_sem, h1]; (repeat with_reducible refine aI ?_))
  exact h2
theorem field_x {S : St} {k : Nat} {l : List UInt8} {x : Rst} (g : FuncId) (fs cs : List D) (C : St → Prop) (E : Except Int Nat) (hk : k < S.next) (hr : EAt k l x S) (hi : x.1 ≤ l.length) (hl : l.length ≤ 1099511627776)
    (hE : ∀ s, E = .ok s → x.1 + s ≤ l.length) (hE0 : ∀ c, E = .error c → c ≠ 0)
    (hC : ∀ T, C T → S.next ≤ T.next ∧ T.ob k = S.ob k)
    (h : x.2.1 = 0 → DCalls Tryd.prog g (fs ++ [.sl .no ((l.drop x.1).map bD)] ++ cs) S fun d T => d = exD E ∧ C T) :
    DCalls Tryd.prog 33 [.loc k 0, .fn (.func g) fs cs] S fun d T' => d = undefD ∧ ∃ T, (x.2.1 = 0 → C T) ∧ (x.2.1 ≠ 0 → T = S) ∧ k < T.next ∧ EAt k l (nxt x E) T' ∧ RFr k T T' := by
  by_cases hc : x.2.1 = 0
  · obtain ⟨own, hr'⟩ := hr.nil hc
    refine dcalls_inline mixed Tryd.func33 rfl (fun _ _ => by kernel_rfl) (rs := []) rfl (by kernel_rfl) (fun hS => ?_)
    (simp (disch := first | decide | omega | (simp only [nx]; first | done | omega)) only [go_sem, hr']; (repeat with_reducible refine aI ?_))
    have hib : (x.1 : Int) ≤ (l.length : Int) := by omega
    refine ddraw_any (fun S' => S'.ob k = some (.box 64 [.sl own (l.map bD), .v (.int .i64 (x.1 : Int)), .v .nilIface])) 16 (by (first | (simp (disch := first | decide | omega | (simp only [nx]; first | done | omega)) only [go_sem, hr']; first | done | rfl) | rfl)) (by kernel_rfl) ?_
    (refine s_take 0 rfl (by kernel_rfl) (by kernel_rfl) (v := ?v1) (fun S' hz => dquietR_of ?h1) <| s_take 1 rfl (by kernel_rfl) (by kernel_rfl) (v := ?v2) (fun S' hz => dquietR_of ?h2) <| s_take 2 rfl (by kernel_rfl) (by kernel_rfl) (v := ?v3) (fun S' hz => dquietR_of ?h3) <| s_take 3 rfl (by kernel_rfl) (by kernel_rfl) (v := ?v4) (fun S' hz => dquietR_of ?h4) <| s_take 4 rfl (by kernel_rfl) (by kernel_rfl) (v := ?v5) (fun S' hz => dquietR_of ?h5) <| s_take 5 rfl (by kernel_rfl) (by kernel_rfl) (v := ?v6) (fun S' hz => dquietR_of ?h6) <| s_take 6 rfl (by kernel_rfl) (by kernel_rfl) (v := ?v7) (fun S' hz => dquietR_of ?h7) <| s_take 7 rfl (by kernel_rfl) (by kernel_rfl) (v := ?v8) (fun S' hz => dquietR_of ?h8) <| s_take 8 rfl (by kernel_rfl) (by kernel_rfl) (v := ?v9) (fun S' hz => dquietR_of ?h9) <| ?k9; (case h1 | h2 | h3 | h4 | h5 | h6 | h7 | h8 | h9 => ((simp (disch := first | decide | omega | (simp only [nx]; first | done | omega)) only [go_sem, hr', hz]; (repeat with_reducible refine aI ?_)); first | done | exact rfl | omega)))
    refine s_take 9 rfl (by kernel_rfl) (by kernel_rfl) (v := .sl .no ((l.drop x.1).map bD)) (fun S' hz => dquietR_of (by simp (disch := first | decide | omega | (simp only [nx]; first | done | omega)) only [go_sem, hz]; exact ⟨⟨hib, .inr (wd_c l)⟩, by first | rw [take_bD, List.map_drop] | rw [List.map_drop]⟩)) ?_
    (refine s_split [10] (by kernel_rfl) (by simp) ?_; intro j_ hj_; obtain rfl : j_ = 10 := (by simpa using hj_); clear hj_; refine s_op rfl ?_; (simp (disch := first | decide | omega | (simp only [nx]; first | done | omega)) only [go_sem, hr']; (repeat with_reducible refine aI ?_)))
    refine (h hc).mono ?_
    rintro _ T ⟨rfl, hcT⟩
    have hT := (hC T hcT).2.trans hr'
    have hn := (hC T hcT).1
    refine ⟨hT, ?_⟩
    cases E with
    | ok s =>
      have hs := hE s rfl
      unfold exD
      (refine s_take 11 rfl (by kernel_rfl) (by kernel_rfl) (v := ?v10) (fun S' hz => dquietR_of ?h10) <| s_take 12 rfl (by kernel_rfl) (by kernel_rfl) (v := ?v11) (fun S' hz => dquietR_of ?h11) <| s_take 13 rfl (by kernel_rfl) (by kernel_rfl) (v := ?v12) (fun S' hz => dquietR_of ?h12) <| s_take 14 rfl (by kernel_rfl) (by kernel_rfl) (v := ?v13) (fun S' hz => dquietR_of ?h13) <| s_take 15 rfl (by kernel_rfl) (by kernel_rfl) (v := ?v14) (fun S' hz => dquietR_of ?h14) <| ?k14; (case h10 | h11 | h12 | h13 | h14 => ((simp (disch := first | decide | omega | (simp only [nx]; first | done | omega)) only [go_sem, hT, hz]; (repeat with_reducible refine aI ?_)); first | done | exact rfl | omega)))
      have b00 : ((0 : Int) != 0) = false := rfl
      have wi : IntKind.i64.wrap ((x.1 : Int) + (s : Int)) = ((x.1 + s : Nat) : Int) := by rw [IntWalk.i64_in _ ⟨by omega, by omega⟩]; push_cast; rfl
      (refine s_done (by kernel_rfl) ?_; (simp (disch := first | decide | omega | (simp only [nx]; first | done | omega)) only [go_sem, hT, b00, wi]; (repeat with_reducible refine aI ?_)))
      refine ⟨T, fun _ => hcT, fun h => absurd hc h, by omega, ?_, RFr.put _ _ _⟩
      simp only [nxt, if_pos hc]
      exact ⟨own, _, set_eq, .inl ⟨hc, rfl⟩⟩
    | error c =>
      have h0 := hE0 c rfl
      unfold exD
      (refine s_take 11 rfl (by kernel_rfl) (by kernel_rfl) (v := ?v15) (fun S' hz => dquietR_of ?h15) <| s_take 12 rfl (by kernel_rfl) (by kernel_rfl) (v := ?v16) (fun S' hz => dquietR_of ?h16) <| s_take 13 rfl (by kernel_rfl) (by kernel_rfl) (v := ?v17) (fun S' hz => dquietR_of ?h17) <| s_take 14 rfl (by kernel_rfl) (by kernel_rfl) (v := ?v18) (fun S' hz => dquietR_of ?h18) <| s_take 15 rfl (by kernel_rfl) (by kernel_rfl) (v := ?v19) (fun S' hz => dquietR_of ?h19) <| ?k19; (case h15 | h16 | h17 | h18 | h19 => ((simp (disch := first | decide | omega | (simp only [nx]; first | done | omega)) only [go_sem, hT, hz]; (repeat with_reducible refine aI ?_)); first | done | exact rfl | omega)))
      have b00 : (c != 0) = true := by simpa using h0
      (refine s_done (by kernel_rfl) ?_; (simp (disch := first | decide | omega | (simp only [nx]; first | done | omega)) only [go_sem, hT, b00]; (repeat with_reducible refine aI ?_)))
      refine (fail_x (x := x) c ⟨own, _, hT, .inl ⟨hc, rfl⟩⟩).mono ?_
      rintro _ T1 ⟨rfl, h1, h2⟩
      rw [faE, if_neg h0] at h1
      (simp (disch := first | decide | omega | (simp only [nx]; first | done | omega)) only [go_sem]; (repeat with_reducible refine aI ?_))
      exact ⟨T, fun _ => hcT, fun h => absurd hc h, by omega, h1, h2⟩
  · obtain ⟨own, e, h1, h2⟩ := hr
    rcases h2 with ⟨h2, rfl⟩ | ⟨h2, b, h3, rfl, h4⟩
    · exact absurd h2 hc
    refine dcalls_inline mixed Tryd.func33 rfl (fun _ _ => by kernel_rfl) (rs := []) rfl (by kernel_rfl) (fun hS => ?_)
    (simp (disch := first | decide | omega | (simp only [nx]; first | done | omega)) only [go_sem, h1]; (repeat with_reducible refine aI ?_))
    rw [nuE_no hc]
    exact ⟨S, fun h => absurd h hc, fun _ => rfl, hk, ⟨own, _, h1, .inr ⟨h2, b, h3, rfl, h4⟩⟩, RFr.refl _ _⟩
theorem byte1_x {S : St} {b : Nat} {l : List UInt8} (hb : S.ob b = some (.box 5 [.v (.int .u8 0)])) :
    DCalls Tryd.prog 34 [.sl .no (l.map bD), .loc b 0] S fun d T => d = exD (byE l) ∧ T.ob b = some (.box 5 [bD (l.headD 0)]) ∧ RFr b S T := by
  refine dcalls_inline mixed Tryd.func34 rfl (fun _ _ => by kernel_rfl) (rs := [.tmp 3, .tmp 4]) rfl (by kernel_rfl) (fun hS => ?_)
  cases l with
  | nil =>
    (simp (disch := first | decide | omega | (simp only [nx]; first | done | omega)) only [go_sem, hb, List.map_nil, List.length_nil, nil0]; (repeat with_reducible refine aI ?_))
    exact ⟨rfl, rfl, RFr.refl _ _⟩
  | cons c l =>
    (simp (disch := first | decide | omega | (simp only [nx]; first | done | omega)) only [go_sem, hb, List.map_cons, List.length_cons, succ0, bD]; (repeat with_reducible refine aI ?_))
    exact ⟨rfl, rfl, RFr.put _ _ _⟩
theorem byE_ok {l : List UInt8} {s : Nat} (h : byE l = .ok s) : s ≤ l.length := by
  cases l with
  | nil => cases h
  | cons b l => injection h with h; subst h; simp
theorem byE_er {l : List UInt8} {c : Int} (h : byE l = .error c) : c ≠ 0 := by
  cases l with
  | nil => injection h with h; subst h; decide
  | cons b l => cases h
theorem byte_x {S : St} {k : Nat} {l : List UInt8} {x : Rst} (hk : k < S.next) (hr : EAt k l x S) (hi : x.1 ≤ l.length) (hl : l.length ≤ 1099511627776) :
    DCalls Tryd.prog 7 [.loc k 0] S fun d T => d = bD (byV l x) ∧ EAt k l (nxt x (byE (l.drop x.1))) T ∧ RFr k S T := by
  refine dcalls_inline mixed Tryd.func7 rfl (fun _ _ => by kernel_rfl) (rs := [.tmp 2]) rfl (by kernel_rfl) (fun hS => ?_)
  (simp (disch := first | decide | omega | (simp only [nx]; first | done | omega)) only [go_sem]; (repeat with_reducible refine aI ?_))
  obtain ⟨S0, hS0⟩ : ∃ S0 : St, S0 = S.add (.box 5 [.v (.int .u8 0)]) := ⟨_, rfl⟩
  have hn0 : S0.next = S.next + 1 := by rw [hS0]; rfl
  have k0 : ∀ j o, S.ob j = some o → S0.ob j = some o := fun j o e => by
    have := hS.lt e
    rw [hS0]
    rw [add_ne this, e]
  have h0 : S0.ob (S.next) = some (.box 5 [.v (.int .u8 0)]) := by
    rw [hS0]; exact add_eq
  rw [← hS0]
  refine (field_x _ [] _ (fun T => (∃ d, (d = bD ((l.drop x.1).headD 0)) ∧ T.ob (S.next) = some (.box 5 [d])) ∧ RFr (S.next) S0 T) (byE (l.drop x.1)) (by omega) (hr.keep k0) hi hl (fun s h => by have := byE_ok h; rw [List.length_drop] at this; omega) (fun c h => byE_er h) ?_ ?_).mono ?_
  · rintro T ⟨_, h2⟩
    obtain ⟨own, e, hb, _⟩ := hr
    exact ⟨h2.next, (h2.ob k _ (by omega) (k0 _ _ hb)).trans (k0 _ _ hb).symm⟩
  · intro _
    refine (byte1_x h0).mono ?_
    rintro _ T ⟨rfl, h1, h2⟩
    exact ⟨rfl, ⟨_, rfl, h1⟩, h2⟩
  · rintro _ T' ⟨rfl, T, hc0, hc1, hk', hE, hF⟩
    have hFT : RFr (S.next) S0 T := by
      by_cases hc : x.2.1 = 0
      · exact (hc0 hc).2
      · rw [hc1 hc]; exact RFr.refl _ _
    have hFS : RFr k S T' := ⟨by have := hFT.next; have := hF.next; omega, fun j o hj e => by have := hS.lt e; exact hF.ob j o hj (hFT.ob j o (by omega) (k0 j o e))⟩
    have hv : ∃ d, (d = bD (byV l x)) ∧ T'.ob (S.next) = some (.box 5 [d]) := by
      by_cases hc : x.2.1 = 0
      · obtain ⟨d, hd, hb⟩ := (hc0 hc).1
        refine ⟨d, ?_, hF.box _ _ _ (by omega) hb⟩
        rw [hd, byV, if_pos hc]
      · rw [hc1 hc] at hF
        refine ⟨_, ?_, hF.box _ _ _ (by omega) h0⟩
        rw [byV, if_neg hc]; rfl
    obtain ⟨dv, hdv, hv⟩ := hv
    clear hc0 hc1
    (simp (disch := first | decide | omega | (simp only [nx]; first | done | omega)) only [go_sem, hv]; (repeat with_reducible refine aI ?_))
    (repeat' refine And.intro ?_ ?_) <;> first | exact hFS | exact hE | exact hdv
theorem num1_x {S : St} {a b : Nat} {l : List UInt8} {m : Nat} (ha : S.ob a = some (.box 22 [.v (.int .u64 (m : Int))])) (hb : S.ob b = some (.box 22 [.v (.int .u64 0)])) (hl : l.length ≤ 1099511627776) :
    DCalls Tryd.prog 35 [.sl .no (l.map bD), .loc a 0, .loc b 0] S fun d T => d = exD (nuE l m) ∧ T.ob b = some (.box 22 [.v (.int .u64 ((nuV l (0, 0, 0) m : Nat) : Int))]) ∧ RFr b S T := by
  refine dcalls_inline mixed Tryd.func35 rfl (fun _ _ => by kernel_rfl) (rs := [.tmp 4, .tmp 5]) rfl (by kernel_rfl) (fun hS => ?_)
  have b00 : ((0 : Int) != 0) = false := rfl
  have b01 : ((0 : Int) == 0) = true := rfl
  have b02 : ((2 : Int) == 0) = false := rfl
  (simp (disch := first | decide | omega | (simp only [nx]; first | done | omega)) only [go_sem, ha, hb]; (repeat with_reducible refine aI ?_))
  refine DCalls.of_pure (number_d .no l hl) ?_
  cases hN : numP l with
  | none =>
    simp only [nuE, nuV, List.drop_zero, hN, if_true]
    (simp (disch := first | decide | omega | (simp only [nx]; first | done | omega)) only [go_sem, ha, hb, b02, numD]; (repeat with_reducible refine aI ?_))
    (repeat' refine And.intro ?_ ?_) <;> first | exact RFr.put _ _ _ | rfl
  | some r =>
    obtain ⟨n, s⟩ := r
    by_cases hm : m < n
    · have b1 : decide ((m : Int) < (n : Int)) = true := decide_eq_true (by omega)
      simp only [nuE, nuV, List.drop_zero, hN, if_true, if_pos hm]
      (simp (disch := first | decide | omega | (simp only [nx]; first | done | omega)) only [go_sem, ha, hb, b01, b1, numD]; (repeat with_reducible refine aI ?_))
      (repeat' refine And.intro ?_ ?_) <;> first | exact RFr.refl _ _ | rfl
    · have b1 : decide ((m : Int) < (n : Int)) = false := decide_eq_false (by omega)
      simp only [nuE, nuV, List.drop_zero, hN, if_true, if_neg hm]
      (simp (disch := first | decide | omega | (simp only [nx]; first | done | omega)) only [go_sem, ha, hb, b01, b1, numD]; (repeat with_reducible refine aI ?_))
      (repeat' refine And.intro ?_ ?_) <;> first | exact RFr.put _ _ _ | rfl
theorem nuE_ok {l : List UInt8} {m s : Nat} (h : nuE l m = .ok s) : s ≤ l.length := by
  unfold nuE at h
  split at h
  · cases h
  · rename_i n q hN
    split at h
    · cases h
    · injection h with h; subst h; exact (numP_le hN).1
theorem nuE_er {l : List UInt8} {m : Nat} {c : Int} (h : nuE l m = .error c) : c ≠ 0 := by
  unfold nuE at h
  split at h
  · injection h with h; subst h; decide
  · split at h
    · injection h with h; subst h; decide
    · cases h
theorem nuV_drop (l : List UInt8) (x : Rst) (m : Nat) : nuV l x m = if x.2.1 = 0 then nuV (l.drop x.1) (0, 0, 0) m else 0 := by
  unfold nuV
  simp only [List.drop_zero, if_true]
theorem number_x {S : St} {k : Nat} {l : List UInt8} {x : Rst} {m : Nat} (hk : k < S.next) (hr : EAt k l x S) (hi : x.1 ≤ l.length) (hl : l.length ≤ 1099511627776) :
    DCalls Tryd.prog 8 [.loc k 0, .v (.int .u64 (m : Int))] S fun d T => d = .v (.int .u64 ((nuV l x m : Nat) : Int)) ∧ EAt k l (nxt x (nuE (l.drop x.1) m)) T ∧ RFr k S T := by
  refine dcalls_inline mixed Tryd.func8 rfl (fun _ _ => by kernel_rfl) (rs := [.tmp 4]) rfl (by kernel_rfl) (fun hS => ?_)
  (simp (disch := first | decide | omega | (simp only [nx]; first | done | omega)) only [go_sem]; (repeat with_reducible refine aI ?_))
  obtain ⟨S0, hS0⟩ : ∃ S0 : St, S0 = (S.add (.box 22 [.v (.int .u64 (m : Int))])).add (.box 22 [.v (.int .u64 0)]) := ⟨_, rfl⟩
  have hn0 : S0.next = S.next + 2 := by rw [hS0]; rfl
  have k0 : ∀ j o, S.ob j = some o → S0.ob j = some o := fun j o e => by
    have := hS.lt e
    rw [hS0]
    rw [add_ne (by show j < S.next + 1; omega), add_ne this, e]
  have h0 : S0.ob (S.next + 1) = some (.box 22 [.v (.int .u64 0)]) := by
    rw [hS0]; exact add_eq (S := S.add _)
  rw [← hS0]
  refine (field_x _ [] _ (fun T => (∃ d, (d = .v (.int .u64 ((nuV (l.drop x.1) (0, 0, 0) m : Nat) : Int))) ∧ T.ob (S.next + 1) = some (.box 22 [d])) ∧ RFr (S.next + 1) S0 T) (nuE (l.drop x.1) m) (by omega) (hr.keep k0) hi hl (fun s h => by have := nuE_ok h; rw [List.length_drop] at this; omega) (fun c h => nuE_er h) ?_ ?_).mono ?_
  · rintro T ⟨_, h2⟩
    obtain ⟨own, e, hb, _⟩ := hr
    exact ⟨h2.next, (h2.ob k _ (by omega) (k0 _ _ hb)).trans (k0 _ _ hb).symm⟩
  · intro _
    refine (num1_x (m := m) (a := S.next) (by rw [hS0, add_ne (by show S.next < S.next + 1; omega), add_eq]) h0 (by rw [List.length_drop]; omega)).mono ?_
    rintro _ T ⟨rfl, h1, h2⟩
    exact ⟨rfl, ⟨_, rfl, h1⟩, h2⟩
  · rintro _ T' ⟨rfl, T, hc0, hc1, hk', hE, hF⟩
    have hFT : RFr (S.next + 1) S0 T := by
      by_cases hc : x.2.1 = 0
      · exact (hc0 hc).2
      · rw [hc1 hc]; exact RFr.refl _ _
    have hFS : RFr k S T' := ⟨by have := hFT.next; have := hF.next; omega, fun j o hj e => by have := hS.lt e; exact hF.ob j o hj (hFT.ob j o (by omega) (k0 j o e))⟩
    have hv : ∃ d, (d = .v (.int .u64 ((nuV l x m : Nat) : Int))) ∧ T'.ob (S.next + 1) = some (.box 22 [d]) := by
      by_cases hc : x.2.1 = 0
      · obtain ⟨d, hd, hb⟩ := (hc0 hc).1
        refine ⟨d, ?_, hF.box _ _ _ (by omega) hb⟩
        rw [hd, nuV_drop l, if_pos hc]
      · rw [hc1 hc] at hF
        refine ⟨_, ?_, hF.box _ _ _ (by omega) h0⟩
        rw [nuV_drop, if_neg hc]; rfl
    obtain ⟨dv, hdv, hv⟩ := hv
    clear hc0 hc1
    (simp (disch := first | decide | omega | (simp only [nx]; first | done | omega)) only [go_sem, hv]; (repeat with_reducible refine aI ?_))
    (repeat' refine And.intro ?_ ?_) <;> first | exact hFS | exact hE | exact hdv
end
end Go.Proofs.YtbcabejdchkpmaaDoor

namespace Go.Proofs.YtbcabejdchkpmaaDoor
open Go.RowKit
theorem first_skip : ∀ {l : List D} {i : Nat}, (∀ j (h : j < l.length), j < i → l[j] = .v .nilIface) → firstD l = firstD (l.drop i)
  | l, 0, _ => by simp
  | [], i + 1, _ => by simp
  | d :: l, i + 1, h => by
    have h0 := h 0 (by simp) (by omega)
    simp only [List.getElem_cons_zero] at h0
    subst h0
    show firstD l = firstD (l.drop i)
    exact first_skip fun j hj hi => h (j + 1) (by simp only [List.length_cons]; omega) (by omega)
def ErrV (d : D) : Prop := d = .v .nilIface ∨ ∃ t u, d = .ifc t u
set_option maxRecDepth 200000 in
set_option maxHeartbeats 4000000 in
theorem first_at {S : St} (own : Own) (l : List D) (he : ∀ d ∈ l, ErrV d) (hz : ∀ d ∈ l, d.frz = d) (hin : S.WF → (firstD l).all (· < S.next)) (hl : l.length < 1000000) : DAt Tryd.prog 41 [.sl own l] S (firstD l) := by
  refine dat_of_dwpA (d := firstD l) mixed Tryd.func41 rfl (fun _ _ => by kernel_rfl) (rs := [.tmp 2]) rfl (by kernel_rfl) hin (fun hS => ?_)
  (simp (disch := first | decide | omega | (simp only [nx]; first | done | omega)) only [go_sem]; (repeat with_reducible refine aI ?_))
  (refine dloop_st (fun t => List.contains [2, 4, 7, 8, 9, 10, 11, 12, 13, 14] t) (by kernel_rfl) ?_ (l.length) (fun i f => i ≤ l.length ∧ f 7 = .v (.int .i64 (i : Nat)) ∧ f 2 = .v .nilIface ∧ (∀ j (h : j < l.length), j < i → l[j] = .v .nilIface)) ?_ ?_; (exact (by (repeat' first | assumption | refine St.WF.leave ?_ _ | refine St.WF.add ?_ _ | refine St.WF.set ?_ ?_ _ | refine St.WF.grow ?_ _ _ _ | refine St.WF.keep ?_ ?_ | (first | omega | (simp only [RowOk.lo, nx]; first | done | omega))))); (exact ⟨(by omega), (by (first | (simp (disch := first | decide | omega | (simp only [nx]; first | done | omega)) only [go_sem]; first | done | rfl) | rfl)), (by (first | (simp (disch := first | decide | omega | (simp only [nx]; first | done | omega)) only [go_sem]; first | done | rfl) | rfl)), (fun j _ hj => by omega)⟩); intro i g tn hn hT hg hI; obtain ⟨le, q7, q2, hno⟩ := hI; have q5 := hg 5 rfl; have q6 := hg 6 rfl; simp (disch := first | decide | omega | (simp only [nx]; first | done | omega)) only [go_sem] at q5 q6; clear hg; have hn' := hn; try simp only [add_next, set_next, grow_next, leave_next, drop_next] at hn')
  have hsk := first_skip hno
  by_cases hlt : i < l.length
  · have b1 : decide ((i : Int) < (l.length : Int)) = true := by simp; omega
    have w1 : IntKind.i64.wrap ((i : Int) + 1) = ((i + 1 : Nat) : Int) := IntWalk.i64_in _ ⟨by omega, by omega⟩
    have hx0 : l.getD i undefD = l[i] := by rw [List.getD_eq_getElem?_getD, List.getElem?_eq_getElem hlt]; rfl
    rcases he _ (List.getElem_mem hlt) with hx | ⟨t, u, hx⟩
    · rw [hx] at hx0
      (simp (disch := first | decide | omega | (simp only [nx]; first | done | omega)) only [go_sem, q5, q6, q7, b1, w1, hx0]; (repeat with_reducible refine aI ?_))
      (refine ⟨by omega, (by (repeat' first | assumption | exact St.Sub.refl _ | exact RowOk.sub (by assumption) (by assumption) | refine St.Sub.trans ?_ (RowOk.sub (by assumption) (by assumption)) | refine St.Sub.add ?_ ?_ _ | refine St.Sub.set ?_ ?_ ?_ _ | refine St.Sub.keep ?_ ?_ | refine St.WF.leave ?_ _ | refine St.WF.add ?_ _ | refine St.WF.set ?_ ?_ _ | refine St.WF.grow ?_ _ _ _ | refine St.WF.keep ?_ ?_ | (first | omega | (simp only [RowOk.lo, nx]; first | done | omega)))), ?_⟩; refine ⟨by omega, ?_, ?_, ?_⟩; all_goals (try (first | (simp (disch := first | decide | omega | (simp only [nx]; first | done | omega)) only [go_sem, w1, q2]; first | done | rfl) | rfl)))
      intro j hj hji
      by_cases e : j = i
      · subst e; exact hx
      · exact hno j hj (by omega)
    · rw [hx] at hx0
      (simp (disch := first | decide | omega | (simp only [nx]; first | done | omega)) only [go_sem, q5, q6, q7, b1, hx0]; (repeat with_reducible refine aI ?_))
      refine ⟨?_, (by (repeat' first | assumption | exact St.Sub.refl _ | exact RowOk.sub (by assumption) (by assumption) | refine St.Sub.trans ?_ (RowOk.sub (by assumption) (by assumption)) | refine St.Sub.add ?_ ?_ _ | refine St.Sub.set ?_ ?_ ?_ _ | refine St.Sub.keep ?_ ?_ | refine St.WF.leave ?_ _ | refine St.WF.add ?_ _ | refine St.WF.set ?_ ?_ _ | refine St.WF.grow ?_ _ _ _ | refine St.WF.keep ?_ ?_ | (first | omega | (simp only [RowOk.lo, nx]; first | done | omega))))⟩
      rw [hsk, List.drop_eq_getElem_cons hlt, hx]
      have hz0 := hz _ (List.getElem_mem hlt)
      rw [hx] at hz0
      rw [hz0]
      rfl
  · have b1 : decide ((i : Int) < (l.length : Int)) = false := by simp; omega
    (simp (disch := first | decide | omega | (simp only [nx]; first | done | omega)) only [go_sem, q5, q6, q7, b1]; (repeat with_reducible refine aI ?_))
    refine ⟨?_, (by (repeat' first | assumption | exact St.Sub.refl _ | exact RowOk.sub (by assumption) (by assumption) | refine St.Sub.trans ?_ (RowOk.sub (by assumption) (by assumption)) | refine St.Sub.add ?_ ?_ _ | refine St.Sub.set ?_ ?_ ?_ _ | refine St.Sub.keep ?_ ?_ | refine St.WF.leave ?_ _ | refine St.WF.add ?_ _ | refine St.WF.set ?_ ?_ _ | refine St.WF.grow ?_ _ _ _ | refine St.WF.keep ?_ ?_ | (first | omega | (simp only [RowOk.lo, nx]; first | done | omega))))⟩
    rw [hsk, List.drop_eq_nil_of_le (by omega)]
    rfl
end Go.Proofs.YtbcabejdchkpmaaDoor

namespace Go.Proofs.YtbcabejdchkpmaaDoor
open Go.RowKit
section
set_option maxRecDepth 200000
set_option maxHeartbeats 8000000
theorem bool1_x {S : St} {b : Nat} {l : List UInt8} (hb : S.ob b = some (.box 4 [.v (.bool false)])) :
    DCalls Tryd.prog 37 [.sl .no (l.map bD), .loc b 0] S fun d T => d = exD (boE l) ∧ T.ob b = some (.box 4 [.v (.bool (decide (l.headD 0 = 1)))]) ∧ RFr b S T := by
  refine dcalls_inline mixed Tryd.func37 rfl (fun _ _ => by kernel_rfl) (rs := [.tmp 3, .tmp 4]) rfl (by kernel_rfl) (fun hS => ?_)
  cases l with
  | nil =>
    (simp (disch := first | decide | omega | (simp only [nx]; first | done | omega)) only [go_sem, hb, List.map_nil, List.length_nil, nil0]; (repeat with_reducible refine aI ?_))
    (repeat' refine And.intro ?_ ?_) <;> first | exact RFr.refl _ _ | rfl
  | cons c l =>
    by_cases h : 1 < c.toNat
    · have b3 : decide ((1 : Int) < (c.toNat : Int)) = true := decide_eq_true (by omega)
      have hc : c ≠ 1 := by rintro rfl; exact absurd h (by decide)
      have he : boE (c :: l) = .error 2 := if_pos h
      rw [he]
      (simp (disch := first | decide | omega | (simp only [nx]; first | done | omega)) only [go_sem, hb, List.map_cons, List.length_cons, succ0, bD, b3]; (repeat with_reducible refine aI ?_))
      (repeat' refine And.intro ?_ ?_) <;> first | exact RFr.refl _ _ | rfl | simp [hc]
    · have b3 : decide ((1 : Int) < (c.toNat : Int)) = false := decide_eq_false (by omega)
      have he : boE (c :: l) = .ok 1 := if_neg h
      have b4 : ((c.toNat : Int) == 1) = decide (c = 1) := by
        by_cases h1 : c = 1
        · subst h1; rfl
        · have : c.toNat ≠ 1 := fun h => h1 (UInt8.toNat_inj.1 h)
          rw [decide_eq_false h1]
          simp; omega
      rw [he]
      (simp (disch := first | decide | omega | (simp only [nx]; first | done | omega)) only [go_sem, hb, List.map_cons, List.length_cons, succ0, bD, b3, b4]; (repeat with_reducible refine aI ?_))
      (repeat' refine And.intro ?_ ?_) <;> first | exact RFr.put _ _ _ | rfl | simp
theorem boE_ok {l : List UInt8} {s : Nat} (h : boE l = .ok s) : s ≤ l.length := by
  cases l with
  | nil => cases h
  | cons b l =>
    by_cases hb : 1 < b.toNat
    · rw [show boE (b :: l) = .error 2 from if_pos hb] at h; cases h
    · rw [show boE (b :: l) = .ok 1 from if_neg hb] at h; injection h with h; subst h; simp
theorem boE_er {l : List UInt8} {c : Int} (h : boE l = .error c) : c ≠ 0 := by
  cases l with
  | nil => injection h with h; subst h; decide
  | cons b l =>
    by_cases hb : 1 < b.toNat
    · rw [show boE (b :: l) = .error 2 from if_pos hb] at h; injection h with h; subst h; decide
    · rw [show boE (b :: l) = .ok 1 from if_neg hb] at h; cases h
theorem bool_x {S : St} {k : Nat} {l : List UInt8} {x : Rst} (hk : k < S.next) (hr : EAt k l x S) (hi : x.1 ≤ l.length) (hl : l.length ≤ 1099511627776) :
    DCalls Tryd.prog 10 [.loc k 0] S fun d T => (d = .v (.bool (boV l x))) ∧ EAt k l (nxt x (boE (l.drop x.1))) T ∧ RFr k S T := by
  refine dcalls_inline mixed Tryd.func10 rfl (fun _ _ => by kernel_rfl) (rs := [.tmp 2]) rfl (by kernel_rfl) (fun hS => ?_)
  (simp (disch := first | decide | omega | (simp only [nx]; first | done | omega)) only [go_sem]; (repeat with_reducible refine aI ?_))
  obtain ⟨S0, hS0⟩ : ∃ S0 : St, S0 = (S.add (.box 4 [.v (.bool false)])).set S.next (.box 4 [.v (.bool false)]) := ⟨_, rfl⟩
  have hn0 : S0.next = S.next + 1 := by rw [hS0]; rfl
  have k0 : ∀ j o, S.ob j = some o → S0.ob j = some o := fun j o e => by
    have := hS.lt e
    rw [hS0]
    rw [set_ne (by omega), add_ne this, e]
  have h0 : S0.ob (S.next) = some (.box 4 [.v (.bool false)]) := by
    rw [hS0]; exact set_eq
  rw [← hS0]
  refine (field_x _ [] _ (fun T => (∃ d, (d = .v (.bool (decide ((l.drop x.1).headD 0 = 1)))) ∧ T.ob (S.next) = some (.box 4 [d])) ∧ RFr (S.next) S0 T) (boE (l.drop x.1)) (by omega) (hr.keep k0) hi hl (fun s h => by have := boE_ok h; rw [List.length_drop] at this; omega) (fun c h => boE_er h) ?_ ?_).mono ?_
  · rintro T ⟨_, h2⟩
    obtain ⟨own, e, hb, _⟩ := hr
    exact ⟨h2.next, (h2.ob k _ (by omega) (k0 _ _ hb)).trans (k0 _ _ hb).symm⟩
  · intro _
    refine (bool1_x h0).mono ?_
    rintro _ T ⟨rfl, h1, h2⟩
    exact ⟨rfl, ⟨_, rfl, h1⟩, h2⟩
  · rintro _ T' ⟨rfl, T, hc0, hc1, hk', hE, hF⟩
    have hFT : RFr (S.next) S0 T := by
      by_cases hc : x.2.1 = 0
      · exact (hc0 hc).2
      · rw [hc1 hc]; exact RFr.refl _ _
    have hFS : RFr k S T' := ⟨by have := hFT.next; have := hF.next; omega, fun j o hj e => by have := hS.lt e; exact hF.ob j o hj (hFT.ob j o (by omega) (k0 j o e))⟩
    have hv : ∃ d, (d = .v (.bool (boV l x))) ∧ T'.ob (S.next) = some (.box 4 [d]) := by
      by_cases hc : x.2.1 = 0
      · obtain ⟨d, hd, hb⟩ := (hc0 hc).1
        refine ⟨d, ?_, hF.box _ _ _ (by omega) hb⟩
        rw [hd, boV, if_pos hc]
      · rw [hc1 hc] at hF
        refine ⟨_, ?_, hF.box _ _ _ (by omega) h0⟩
        rw [boV, if_neg hc]
    obtain ⟨dv, hdv, hv⟩ := hv
    clear hc0 hc1
    (simp (disch := first | decide | omega | (simp only [nx]; first | done | omega)) only [go_sem, hv]; (repeat with_reducible refine aI ?_))
    (repeat' refine And.intro ?_ ?_) <;> first | exact hFS | exact hE | exact hdv
theorem max0 (mx : Int) : (if (0 : Int) < mx then mx else 0) = (mx.toNat : Int) := by split <;> omega
theorem bsV_drop (l : List UInt8) (x : Rst) (m : Nat) : bsV l x m = if x.2.1 = 0 then bsV (l.drop x.1) (0, 0, 0) m else [] := by
  unfold bsV
  simp only [List.drop_zero, if_true]
theorem rwV_drop (l : List UInt8) (x : Rst) (m : Nat) : rwV l x m = if x.2.1 = 0 then rwV (l.drop x.1) (0, 0, 0) m else [] := by
  unfold rwV
  simp only [List.drop_zero, if_true]
theorem bsE_ok {l : List UInt8} {m s : Nat} (h : bsE l m = .ok s) : s ≤ l.length := by
  unfold bsE at h
  split at h
  · cases h
  · rename_i n q hN
    have := (numP_le hN).1
    split at h
    · cases h
    · split at h
      · cases h
      · injection h with h; omega
theorem bsE_er {l : List UInt8} {m : Nat} {c : Int} (h : bsE l m = .error c) : c ≠ 0 := by
  unfold bsE at h
  split at h
  · injection h with h; subst h; decide
  · split at h
    · injection h with h; subst h; decide
    · split at h
      · injection h with h; subst h; decide
      · cases h
theorem rwE_ok {l : List UInt8} {m s : Nat} (h : rwE l m = .ok s) : s ≤ l.length := by
  unfold rwE at h
  split at h
  · cases h
  · injection h with h; omega
theorem rwE_er {l : List UInt8} {m : Nat} {c : Int} (h : rwE l m = .error c) : c ≠ 0 := by
  unfold rwE at h
  split at h
  · injection h with h; subst h; decide
  · cases h
theorem byt1_x {S : St} {a b : Nat} {l : List UInt8} {mx : Int} (hm : IsI64 mx) (hbn : b < S.next) (ha : S.ob a = some (.box 3 [.v (.int .i64 mx)])) (hb : S.ob b = some (.box 30 [.sl .full []])) (hl : l.length ≤ 1099511627776) :
    DCalls Tryd.prog 38 [.sl .no (l.map bD), .loc a 0, .loc b 0] S fun d T => d = exD (bsE l mx.toNat) ∧ (∃ o, T.ob b = some (.box 30 [.sl o ((bsV l (0, 0, 0) mx.toNat).map bD)])) ∧ RFr b S T := by
  unfold IsI64 at hm
  refine dcalls_inline mixed Tryd.func38 rfl (fun _ _ => by kernel_rfl) (rs := [.tmp 4, .tmp 5]) rfl (by kernel_rfl) (fun hS => ?_)
  have b00 : ((0 : Int) != 0) = false := rfl
  have b02 : ((2 : Int) != 0) = true := rfl
  have wm : IntKind.u64.wrap (mx.toNat : Int) = (mx.toNat : Int) := wrap_u64 _ (by unfold IsU64; omega)
  (simp (disch := first | decide | omega | (simp only [nx]; first | done | omega)) only [go_sem, ha, hb]; (repeat with_reducible refine aI ?_))
  refine DCalls.of_pure (number_d .no l hl) ?_
  cases hN : numP l with
  | none =>
    simp only [bsE, bsV, List.drop_zero, hN, if_true]
    (simp (disch := first | decide | omega | (simp only [nx]; first | done | omega)) only [go_sem, ha, hb, b02, numD]; (repeat with_reducible refine aI ?_))
    exact ⟨rfl, ⟨.full, rfl⟩, RFr.refl _ _⟩
  | some r =>
    obtain ⟨n, q⟩ := r
    have hq := (numP_le hN).1
    have hnu := (numP_le hN).2
    unfold IsU64 at hnu
    by_cases hmn : mx.toNat < n
    · have b1 : decide ((mx.toNat : Int) < (n : Int)) = true := decide_eq_true (by omega)
      simp only [bsE, bsV, List.drop_zero, hN, if_true, if_pos hmn]
      (simp (disch := first | decide | omega | (simp only [nx]; first | done | omega)) only [go_sem, ha, hb, b00, numD, max0, wm, b1]; (repeat with_reducible refine aI ?_))
      exact ⟨rfl, ⟨.full, rfl⟩, RFr.refl _ _⟩
    · have b1 : decide ((mx.toNat : Int) < (n : Int)) = false := decide_eq_false (by omega)
      have wl : IntKind.i64.wrap ((l.length : Int) - (q : Int)) = ((l.length - q : Nat) : Int) := by rw [IntWalk.i64_in _ ⟨by omega, by omega⟩]; omega
      have wu : IntKind.u64.wrap ((l.length - q : Nat) : Int) = ((l.length - q : Nat) : Int) := wrap_u64 _ (by unfold IsU64; omega)
      by_cases hln : l.length - q < n
      · have b2 : decide (((l.length - q : Nat) : Int) < (n : Int)) = true := decide_eq_true (by omega)
        simp only [bsE, bsV, List.drop_zero, hN, if_true, if_neg hmn, if_pos hln]
        (simp (disch := first | decide | omega | (simp only [nx]; first | done | omega)) only [go_sem, ha, hb, b00, numD, max0, wm, b1, wl, wu, b2]; (repeat with_reducible refine aI ?_))
        exact ⟨rfl, ⟨.full, rfl⟩, RFr.refl _ _⟩
      · have b2 : decide (((l.length - q : Nat) : Int) < (n : Int)) = false := decide_eq_false (by omega)
        have wn : IntKind.i64.wrap (n : Int) = (n : Int) := IntWalk.i64_in _ ⟨by omega, by omega⟩
        have wq : IntKind.i64.wrap ((q : Int) + (n : Int)) = ((q + n : Nat) : Int) := by rw [IntWalk.i64_in _ ⟨by omega, by omega⟩]; push_cast; rfl
        simp only [bsE, bsV, List.drop_zero, hN, if_true, if_neg hmn, if_neg hln]
        (simp (disch := first | decide | omega | (simp only [nx]; first | done | omega)) only [go_sem, ha, hb, b00, numD, max0, wm, b1, wl, wu, b2]; (repeat with_reducible refine aI ?_))
        have hsl : List.drop q (List.take (q + n) (l.map bD)) = ((l.drop q).take n).map bD := by rw [← List.map_take, ← List.map_drop, List.drop_take, Nat.add_sub_cancel_left]
        have hle : ((q + n : Nat) : Int) ≤ (l.length : Int) := by omega
        have hle0 : (q : Int) ≤ ((q + n : Nat) : Int) := by omega
        have hwd := eq_true (wd_c l)
        refine ddraw_mk 8 (by kernel_rfl) ?_
        simp (disch := first | decide | omega | (simp only [nx]; first | done | omega)) only [go_sem, ha, hb, b00, wn, wq, hsl, hwd, hle, hle0]
        refine dapp_bytes (bs := []) (.inl ⟨rfl, rfl⟩) (by rw [List.length_take, List.length_drop]; simp; omega) ?_
        have hbS : (b = S.next) = False := by simp; omega
        (simp (disch := first | decide | omega | (simp only [nx]; first | done | omega)) only [go_sem, ha, hb, wn, wq, hbS]; (repeat with_reducible refine aI ?_))
        refine ⟨rfl, ⟨_, rfl⟩, ⟨Nat.le_succ _, fun j o hj e => ?_⟩⟩
        have := hS.lt e
        rw [set_ne hj]
        simp only [St.grow, St.leave]
        rw [add_ne this, e]
theorem bytes_x {S : St} {k : Nat} {l : List UInt8} {x : Rst} {mx : Int} (hm : IsI64 mx) (hk : k < S.next) (hr : EAt k l x S) (hi : x.1 ≤ l.length) (hl : l.length ≤ 1099511627776) :
    DCalls Tryd.prog 11 [.loc k 0, .v (.int .i64 mx)] S fun d T => (∃ o, d = .sl o ((bsV l x mx.toNat).map bD)) ∧ EAt k l (nxt x (bsE (l.drop x.1) mx.toNat)) T ∧ RFr k S T := by
  refine dcalls_inline mixed Tryd.func11 rfl (fun _ _ => by kernel_rfl) (rs := [.tmp 4]) rfl (by kernel_rfl) (fun hS => ?_)
  (simp (disch := first | decide | omega | (simp only [nx]; first | done | omega)) only [go_sem]; (repeat with_reducible refine aI ?_))
  obtain ⟨S0, hS0⟩ : ∃ S0 : St, S0 = (S.add (.box 3 [.v (.int .i64 mx)])).add (.box 30 [.sl .full []]) := ⟨_, rfl⟩
  have hn0 : S0.next = S.next + 2 := by rw [hS0]; rfl
  have k0 : ∀ j o, S.ob j = some o → S0.ob j = some o := fun j o e => by
    have := hS.lt e
    rw [hS0]
    rw [add_ne (by show j < S.next + 1; omega), add_ne this, e]
  have h0 : S0.ob (S.next + 1) = some (.box 30 [.sl .full []]) := by
    rw [hS0]; exact add_eq (S := S.add _)
  rw [← hS0]
  refine (field_x _ [] _ (fun T => (∃ d, (∃ o, d = .sl o ((bsV (l.drop x.1) (0, 0, 0) mx.toNat).map bD)) ∧ T.ob (S.next + 1) = some (.box 30 [d])) ∧ RFr (S.next + 1) S0 T) (bsE (l.drop x.1) mx.toNat) (by omega) (hr.keep k0) hi hl (fun s h => by have := bsE_ok h; rw [List.length_drop] at this; omega) (fun c h => bsE_er h) ?_ ?_).mono ?_
  · rintro T ⟨_, h2⟩
    obtain ⟨own, e, hb, _⟩ := hr
    exact ⟨h2.next, (h2.ob k _ (by omega) (k0 _ _ hb)).trans (k0 _ _ hb).symm⟩
  · intro _
    refine (byt1_x (a := S.next) hm (by omega) (by rw [hS0, add_ne (by show S.next < S.next + 1; omega), add_eq]) h0 (by rw [List.length_drop]; omega)).mono ?_
    rintro _ T ⟨rfl, ⟨o, h1⟩, h2⟩
    exact ⟨rfl, ⟨_, ⟨o, rfl⟩, h1⟩, h2⟩
  · rintro _ T' ⟨rfl, T, hc0, hc1, hk', hE, hF⟩
    have hFT : RFr (S.next + 1) S0 T := by
      by_cases hc : x.2.1 = 0
      · exact (hc0 hc).2
      · rw [hc1 hc]; exact RFr.refl _ _
    have hFS : RFr k S T' := ⟨by have := hFT.next; have := hF.next; omega, fun j o hj e => by have := hS.lt e; exact hF.ob j o hj (hFT.ob j o (by omega) (k0 j o e))⟩
    have hv : ∃ d, (∃ o, d = .sl o ((bsV l x mx.toNat).map bD)) ∧ T'.ob (S.next + 1) = some (.box 30 [d]) := by
      by_cases hc : x.2.1 = 0
      · obtain ⟨d, hd, hb⟩ := (hc0 hc).1
        refine ⟨d, ?_, hF.box _ _ _ (by omega) hb⟩
        rw [bsV_drop l, if_pos hc]; exact hd
      · rw [hc1 hc] at hF
        refine ⟨_, ?_, hF.box _ _ _ (by omega) h0⟩
        rw [bsV_drop, if_neg hc]; exact ⟨_, rfl⟩
    obtain ⟨dv, hdv, hv⟩ := hv
    clear hc0 hc1
    (simp (disch := first | decide | omega | (simp only [nx]; first | done | omega)) only [go_sem, hv]; (repeat with_reducible refine aI ?_))
    (repeat' refine And.intro ?_ ?_) <;> first | exact hFS | exact hE | exact hdv
theorem raw1_x {S : St} {a b : Nat} {l : List UInt8} {mx : Int} (hm : IsI64 mx) (hbn : b < S.next) (ha : S.ob a = some (.box 3 [.v (.int .i64 mx)])) (hb : S.ob b = some (.box 30 [.sl .full []])) (hl : l.length ≤ 1099511627776) :
    DCalls Tryd.prog 39 [.sl .no (l.map bD), .loc a 0, .loc b 0] S fun d T => d = exD (rwE l mx.toNat) ∧ (∃ o, T.ob b = some (.box 30 [.sl o ((rwV l (0, 0, 0) mx.toNat).map bD)])) ∧ RFr b S T := by
  refine dcalls_inline mixed Tryd.func39 rfl (fun _ _ => by kernel_rfl) (rs := [.tmp 4, .tmp 5]) rfl (by kernel_rfl) (fun hS => ?_)
  by_cases hln : l.length < mx.toNat
  · have b2 : decide ((l.length : Int) < (mx.toNat : Int)) = true := decide_eq_true (by omega)
    simp only [rwE, rwV, List.drop_zero, if_true, if_pos hln]
    (simp (disch := first | decide | omega | (simp only [nx]; first | done | omega)) only [go_sem, ha, hb, max0, b2]; (repeat with_reducible refine aI ?_))
    exact ⟨rfl, ⟨.full, rfl⟩, RFr.refl _ _⟩
  · have b2 : decide ((l.length : Int) < (mx.toNat : Int)) = false := decide_eq_false (by omega)
    simp only [rwE, rwV, List.drop_zero, if_true, if_neg hln]
    (simp (disch := first | decide | omega | (simp only [nx]; first | done | omega)) only [go_sem, ha, hb, max0, b2]; (repeat with_reducible refine aI ?_))
    have hsl : List.take mx.toNat (l.map bD) = (l.take mx.toNat).map bD := by rw [← List.map_take]
    have hle : ((mx.toNat : Nat) : Int) ≤ (l.length : Int) := by omega
    have hwd := eq_true (wd_c l)
    refine ddraw_mk 4 (by kernel_rfl) ?_
    simp (disch := first | decide | omega | (simp only [nx]; first | done | omega)) only [go_sem, ha, hb, hsl, hwd, hle]
    refine dapp_bytes (bs := []) (.inl ⟨rfl, rfl⟩) (by rw [List.length_take]; simp; omega) ?_
    have hbS : (b = S.next) = False := by simp; omega
    (simp (disch := first | decide | omega | (simp only [nx]; first | done | omega)) only [go_sem, ha, hb, hbS]; (repeat with_reducible refine aI ?_))
    refine ⟨rfl, ⟨_, rfl⟩, ⟨Nat.le_succ _, fun j o hj e => ?_⟩⟩
    have := hS.lt e
    rw [set_ne hj]
    simp only [St.grow, St.leave]
    rw [add_ne this, e]
theorem raw_x {S : St} {k : Nat} {l : List UInt8} {x : Rst} {mx : Int} (hm : IsI64 mx) (hk : k < S.next) (hr : EAt k l x S) (hi : x.1 ≤ l.length) (hl : l.length ≤ 1099511627776) :
    DCalls Tryd.prog 13 [.loc k 0, .v (.int .i64 mx)] S fun d T => (∃ o, d = .sl o ((rwV l x mx.toNat).map bD)) ∧ EAt k l (nxt x (rwE (l.drop x.1) mx.toNat)) T ∧ RFr k S T := by
  refine dcalls_inline mixed Tryd.func13 rfl (fun _ _ => by kernel_rfl) (rs := [.tmp 4]) rfl (by kernel_rfl) (fun hS => ?_)
  (simp (disch := first | decide | omega | (simp only [nx]; first | done | omega)) only [go_sem]; (repeat with_reducible refine aI ?_))
  obtain ⟨S0, hS0⟩ : ∃ S0 : St, S0 = (S.add (.box 3 [.v (.int .i64 mx)])).add (.box 30 [.sl .full []]) := ⟨_, rfl⟩
  have hn0 : S0.next = S.next + 2 := by rw [hS0]; rfl
  have k0 : ∀ j o, S.ob j = some o → S0.ob j = some o := fun j o e => by
    have := hS.lt e
    rw [hS0]
    rw [add_ne (by show j < S.next + 1; omega), add_ne this, e]
  have h0 : S0.ob (S.next + 1) = some (.box 30 [.sl .full []]) := by
    rw [hS0]; exact add_eq (S := S.add _)
  rw [← hS0]
  refine (field_x _ [] _ (fun T => (∃ d, (∃ o, d = .sl o ((rwV (l.drop x.1) (0, 0, 0) mx.toNat).map bD)) ∧ T.ob (S.next + 1) = some (.box 30 [d])) ∧ RFr (S.next + 1) S0 T) (rwE (l.drop x.1) mx.toNat) (by omega) (hr.keep k0) hi hl (fun s h => by have := rwE_ok h; rw [List.length_drop] at this; omega) (fun c h => rwE_er h) ?_ ?_).mono ?_
  · rintro T ⟨_, h2⟩
    obtain ⟨own, e, hb, _⟩ := hr
    exact ⟨h2.next, (h2.ob k _ (by omega) (k0 _ _ hb)).trans (k0 _ _ hb).symm⟩
  · intro _
    refine (raw1_x (a := S.next) hm (by omega) (by rw [hS0, add_ne (by show S.next < S.next + 1; omega), add_eq]) h0 (by rw [List.length_drop]; omega)).mono ?_
    rintro _ T ⟨rfl, ⟨o, h1⟩, h2⟩
    exact ⟨rfl, ⟨_, ⟨o, rfl⟩, h1⟩, h2⟩
  · rintro _ T' ⟨rfl, T, hc0, hc1, hk', hE, hF⟩
    have hFT : RFr (S.next + 1) S0 T := by
      by_cases hc : x.2.1 = 0
      · exact (hc0 hc).2
      · rw [hc1 hc]; exact RFr.refl _ _
    have hFS : RFr k S T' := ⟨by have := hFT.next; have := hF.next; omega, fun j o hj e => by have := hS.lt e; exact hF.ob j o hj (hFT.ob j o (by omega) (k0 j o e))⟩
    have hv : ∃ d, (∃ o, d = .sl o ((rwV l x mx.toNat).map bD)) ∧ T'.ob (S.next + 1) = some (.box 30 [d]) := by
      by_cases hc : x.2.1 = 0
      · obtain ⟨d, hd, hb⟩ := (hc0 hc).1
        refine ⟨d, ?_, hF.box _ _ _ (by omega) hb⟩
        rw [rwV_drop l, if_pos hc]; exact hd
      · rw [hc1 hc] at hF
        refine ⟨_, ?_, hF.box _ _ _ (by omega) h0⟩
        rw [rwV_drop, if_neg hc]; exact ⟨_, rfl⟩
    obtain ⟨dv, hdv, hv⟩ := hv
    clear hc0 hc1
    (simp (disch := first | decide | omega | (simp only [nx]; first | done | omega)) only [go_sem, hv]; (repeat with_reducible refine aI ?_))
    (repeat' refine And.intro ?_ ?_) <;> first | exact hFS | exact hE | exact hdv
theorem text_x {S : St} {k : Nat} {l : List UInt8} {x : Rst} {mx : Int} (hm : IsI64 mx) (hk : k < S.next) (hr : EAt k l x S) (hi : x.1 ≤ l.length) (hl : l.length ≤ 1099511627776) :
    DCalls Tryd.prog 12 [.loc k 0, .v (.int .i64 mx)] S fun d T => d = .v (.string ⟨(bsV l x mx.toNat).toArray⟩) ∧ EAt k l (nxt x (bsE (l.drop x.1) mx.toNat)) T ∧ RFr k S T := by
  refine dcalls_inline mixed Tryd.func12 rfl (fun _ _ => by kernel_rfl) (rs := [.tmp 4]) rfl (by kernel_rfl) (fun hS => ?_)
  (simp (disch := first | decide | omega | (simp only [nx]; first | done | omega)) only [go_sem]; (repeat with_reducible refine aI ?_))
  refine (bytes_x hm hk hr hi hl).mono ?_
  rintro _ T ⟨⟨o, rfl⟩, h1, h2⟩
  (simp (disch := first | decide | omega | (simp only [nx]; first | done | omega)) only [go_sem]; (repeat with_reducible refine aI ?_))
  (repeat' refine And.intro ?_ ?_) <;> first | exact h2 | exact h1 | rfl
theorem int_x {S : St} {k : Nat} {l : List UInt8} {x : Rst} (hk : k < S.next) (hr : EAt k l x S) (hi : x.1 ≤ l.length) (hl : l.length ≤ 1099511627776) :
    DCalls Tryd.prog 9 [.loc k 0] S fun d T => d = .v (.int .i64 (unz (nuV l x 18446744073709551615))) ∧ EAt k l (nxt x (nuE (l.drop x.1) 18446744073709551615)) T ∧ RFr k S T := by
  refine dcalls_inline mixed Tryd.func9 rfl (fun _ _ => by kernel_rfl) (rs := [.tmp 2]) rfl (by kernel_rfl) (fun hS => ?_)
  (simp (disch := first | decide | omega | (simp only [nx]; first | done | omega)) only [go_sem]; (repeat with_reducible refine aI ?_))
  refine (number_x (m := 18446744073709551615) hk hr hi hl).mono ?_
  rintro _ T ⟨rfl, h1, h2⟩
  have hu := nuV_u64 l x 18446744073709551615
  generalize nuV l x 18446744073709551615 = n at *
  obtain ⟨hz1, hz2⟩ := unz_ok hu
  have hzu : n < 18446744073709551616 := hu
  have w1 : IntKind.i64.wrap ((n / 2 : Nat) : Int) = ((n / 2 : Nat) : Int) := IntWalk.i64_in _ ⟨by omega, by omega⟩
  have w2 : IntKind.i64.wrap ((n % 2 : Nat) : Int) = ((n % 2 : Nat) : Int) := IntWalk.i64_in _ ⟨by omega, by omega⟩
  have w3 : IntKind.i64.wrap (0 - ((n % 2 : Nat) : Int)) = -((n % 2 : Nat) : Int) := by rw [IntKind.wrap_i64]; omega
  have hx := unzig_xor (unz n) hz1
  rw [hz2] at hx
  (simp (disch := first | decide | omega | (simp only [nx]; first | done | omega)) only [go_sem, bin_shr1, bin_and, bin_xor, and1 _ hu, cv_u64i64, w1, w2, w3, hx]; (repeat with_reducible refine aI ?_))
  (repeat' refine And.intro ?_ ?_) <;> first | exact h2 | exact h1 | rfl
def endX (l : List UInt8) (x : Rst) : Rst := if x.2.1 = 0 ∧ x.1 < l.length then (x.1, 2, (x.1 : Int)) else x
theorem end_x {S : St} {k : Nat} {l : List UInt8} {x : Rst} (hr : EAt k l x S) (hi : x.1 ≤ l.length) :
    DCalls Tryd.prog 17 [.loc k 0] S fun d T => ErrAt k (endX l x).2.1 (endX l x).2.2 T d ∧ RFr k S T := by
  have hr0 := hr
  obtain ⟨own, e, h1, h2⟩ := hr
  refine dcalls_inline mixed Tryd.func17 rfl (fun _ _ => by kernel_rfl) (rs := [.tmp 2]) rfl (by kernel_rfl) (fun hS => ?_)
  have hk := hS.lt h1
  by_cases hl : x.1 < l.length
  · have b1 : decide ((x.1 : Int) < (l.length : Int)) = true := decide_eq_true (by omega)
    (simp (disch := first | decide | omega | (simp only [nx]; first | done | omega)) only [go_sem, h1, b1]; (repeat with_reducible refine aI ?_))
    refine ddraw_mk 14 (by kernel_rfl) ?_
    (simp (disch := first | decide | omega | (simp only [nx]; first | done | omega)) only [go_sem, h1, b1]; (repeat with_reducible refine aI ?_))
    refine ddraw_any (fun S' => S'.ob k = some (.box 64 [.sl own (l.map bD), .v (.int .i64 (x.1 : Int)), e])) 13 (by (first | (simp (disch := first | decide | omega | (simp only [nx]; first | done | omega)) only [go_sem, h1]; first | done | rfl) | rfl)) (by kernel_rfl) ?_
    (refine s_take 0 rfl (by kernel_rfl) (by kernel_rfl) (v := ?v1) (fun S' hz => dquietR_of ?h1) <| s_take 1 rfl (by kernel_rfl) (by kernel_rfl) (v := ?v2) (fun S' hz => dquietR_of ?h2) <| s_take 2 rfl (by kernel_rfl) (by kernel_rfl) (v := ?v3) (fun S' hz => dquietR_of ?h3) <| s_take 3 rfl (by kernel_rfl) (by kernel_rfl) (v := ?v4) (fun S' hz => dquietR_of ?h4) <| s_take 4 rfl (by kernel_rfl) (by kernel_rfl) (v := ?v5) (fun S' hz => dquietR_of ?h5) <| s_take 5 rfl (by kernel_rfl) (by kernel_rfl) (v := ?v6) (fun S' hz => dquietR_of ?h6) <| s_take 6 rfl (by kernel_rfl) (by kernel_rfl) (v := ?v7) (fun S' hz => dquietR_of ?h7) <| s_take 7 rfl (by kernel_rfl) (by kernel_rfl) (v := ?v8) (fun S' hz => dquietR_of ?h8) <| s_take 8 rfl (by kernel_rfl) (by kernel_rfl) (v := ?v9) (fun S' hz => dquietR_of ?h9) <| ?k9; (case h1 | h2 | h3 | h4 | h5 | h6 | h7 | h8 | h9 => ((simp (disch := first | decide | omega | (simp only [nx]; first | done | omega)) only [go_sem, h1, hz]; (repeat with_reducible refine aI ?_)); first | done | exact rfl | omega)))
    (refine s_split [9] (by kernel_rfl) (by simp) ?_; intro j_ hj_; obtain rfl : j_ = 9 := (by simpa using hj_); clear hj_; refine s_op rfl ?_; (simp (disch := first | decide | omega | (simp only [nx]; first | done | omega)) only [go_sem, h1]; (repeat with_reducible refine aI ?_)))
    refine wrap_at ?_
    obtain ⟨S1, hS1⟩ : ∃ S1 : St, S1 = S.add (.box 93 [.v (.int .i64 (x.1 : Int)), .ifc 25 (.v (.int .i64 2))]) := ⟨_, rfl⟩
    have hW1 : S1.WF := by rw [hS1]; exact hS.add _
    have hk1 : S1.ob k = some (.box 64 [.sl own (l.map bD), .v (.int .i64 (x.1 : Int)), e]) := by rw [hS1, add_ne hk, h1]
    have hb1 : S1.ob S.next = some (.box 93 [.v (.int .i64 (x.1 : Int)), erD 2]) := by rw [hS1]; exact add_eq
    have he1 : ErrAt k x.2.1 x.2.2 S1 e := h2.keep fun j o hj e => by have := hS.lt e; rw [hS1, add_ne this, e]
    rw [← hS1]
    refine ⟨hk1, ?_⟩
    have heo : e.okCell = true := by rcases h2 with ⟨_, rfl⟩ | ⟨_, b, _, rfl, _⟩ <;> rfl
    have hew : e.cells.length = 1 := by rcases h2 with ⟨_, rfl⟩ | ⟨_, b, _, rfl, _⟩ <;> rfl
    (refine s_take 10 rfl (by kernel_rfl) (by kernel_rfl) (v := ?v10) (fun S' hz => dquietR_of ?h10) ?k10; (case h10 => ((simp (disch := first | decide | omega | (simp only [nx]; first | done | omega)) only [go_sem, hk1, heo, hew, hz]; (repeat with_reducible refine aI ?_)); first | done | exact rfl | omega)))
    have hf : firstD [e, atD S.next] = if x.2.1 = 0 then atD S.next else e := by
      rcases h2 with ⟨h2, rfl⟩ | ⟨h2, b, h3, rfl, h4⟩
      · rw [if_pos h2]; rfl
      · rw [if_neg h2]; rfl
    have hfa : DAt Tryd.prog 41 [.sl .full [e, atD S.next]] S1 (if x.2.1 = 0 then atD S.next else e) := by
      rw [← hf]
      refine first_at .full [e, atD S.next] ?_ ?_ (fun _ => ?_) (by simp)
      · intro d hd
        simp only [List.mem_cons, List.not_mem_nil, or_false] at hd
        rcases hd with rfl | rfl
        · rcases h2 with ⟨h2, rfl⟩ | ⟨h2, b, h3, rfl, h4⟩
          · exact .inl rfl
          · exact .inr ⟨_, _, rfl⟩
        · exact .inr ⟨_, _, rfl⟩
      · intro d hd
        simp only [List.mem_cons, List.not_mem_nil, or_false] at hd
        rcases hd with rfl | rfl
        · rcases h2 with ⟨h2, rfl⟩ | ⟨h2, b, h3, rfl, h4⟩ <;> rfl
        · rfl
      · rw [hf]
        split
        · exact hW1.lt hb1
        · rename_i hc
          rcases he1 with ⟨h2', rfl⟩ | ⟨h2', b, h3, rfl, h4⟩
          · exact absurd h2' hc
          · exact hW1.lt h4
    (refine s_split [11] (by kernel_rfl) (by simp) ?_; intro j_ hj_; obtain rfl : j_ = 11 := (by simpa using hj_); clear hj_; refine s_op rfl ?_; (simp (disch := first | decide | omega | (simp only [nx]; first | done | omega)) only [go_sem, hk1]; (repeat with_reducible refine aI ?_)))
    refine hfa.go ?_
    refine ⟨hk1, ?_⟩
    (refine s_take 12 rfl (by kernel_rfl) (by kernel_rfl) (v := ?v11) (fun S' hz => dquietR_of ?h11) ?k11; (case h11 => ((simp (disch := first | decide | omega | (simp only [nx]; first | done | omega)) only [go_sem, hk1, hz]; (repeat with_reducible refine aI ?_)); first | done | exact rfl | omega)))
    (refine s_done (by kernel_rfl) ?_; (simp (disch := first | decide | omega | (simp only [nx]; first | done | omega)) only [go_sem, hk1]; (repeat with_reducible refine aI ?_)))
    refine ⟨?_, by rw [hS1]; exact (RFr.refl k S).add hS _⟩
    unfold endX
    by_cases hc : x.2.1 = 0
    · rw [if_pos hc, if_pos ⟨hc, hl⟩]
      exact .inr ⟨by simp, S.next, by omega, rfl, hb1⟩
    · rw [if_neg hc, if_neg fun h => hc h.1]
      exact he1
  · have b1 : decide ((x.1 : Int) < (l.length : Int)) = false := decide_eq_false (by omega)
    (simp (disch := first | decide | omega | (simp only [nx]; first | done | omega)) only [go_sem, h1, b1]; (repeat with_reducible refine aI ?_))
    refine ddraw_mk 14 (by kernel_rfl) ?_
    (simp (disch := first | decide | omega | (simp only [nx]; first | done | omega)) only [go_sem, h1, b1]; (repeat with_reducible refine aI ?_))
    refine (err_x hr0).mono ?_
    rintro d T ⟨hd, rfl⟩
    (simp (disch := first | decide | omega | (simp only [nx]; first | done | omega)) only [go_sem]; (repeat with_reducible refine aI ?_))
    unfold endX
    rw [if_neg fun h => hl h.2]
    exact ⟨hd, RFr.refl _ _⟩
end
end Go.Proofs.YtbcabejdchkpmaaDoor

namespace Go.Proofs.YtbcabejdchkpmaaDoor
open Go.RowKit
theorem u8ne (x y : UInt8) : ((x.toNat : Int) != (y.toNat : Int)) = !decide (x = y) := by
  by_cases h : x = y
  · subst h; simp
  · have : ¬ ((x.toNat : Int) = (y.toNat : Int)) := fun e => h (UInt8.toNat_inj.1 (by omega))
    simp [h, this, bne]
set_option maxRecDepth 200000 in
set_option maxHeartbeats 8000000 in
theorem bytesEq_d (own own2 : Own) (p q : List UInt8) (hp : p.length ≤ 1000000) (hq : q.length ≤ 1000000) : DPure Tryd.prog 30 [.sl own (p.map bD), .sl own2 (q.map bD)] (.v (.bool (decide (p = q)))) := by
  refine dpure_of_dwp mixed Tryd.func30 rfl (fun _ _ => by kernel_rfl) (rs := [.tmp 4]) rfl (by kernel_rfl) trivial (fun S hS => ?_)
  by_cases hl : p.length = q.length
  · have b0 : ((p.length : Int) != (q.length : Int)) = false := by simp [hl]
    (simp (disch := first | decide | omega | (simp only [nx]; first | done | omega)) only [go_sem, b0]; (repeat with_reducible refine aI ?_))
    (refine dloop_st (fun t => List.contains [4, 5, 11, 12, 13, 14, 15, 16, 17, 18, 19, 20, 21, 22, 23, 24, 25] t) (by kernel_rfl) ?_ (p.length) (fun i f => i ≤ p.length ∧ f 5 = .v (.int .i64 (i : Nat)) ∧ (∀ j, j < i → p[j]? = q[j]?)) ?_ ?_; (exact (by (repeat' first | assumption | refine St.WF.leave ?_ _ | refine St.WF.add ?_ _ | refine St.WF.set ?_ ?_ _ | refine St.WF.grow ?_ _ _ _ | refine St.WF.keep ?_ ?_ | (first | omega | (simp only [RowOk.lo, nx]; first | done | omega))))); (exact ⟨(by omega), (by (first | (simp (disch := first | decide | omega | (simp only [nx]; first | done | omega)) only [go_sem]; first | done | rfl) | rfl)), (fun j hj => by omega)⟩); intro i g tn hn hT hg hI; obtain ⟨le, q5, hsame⟩ := hI; have q0 := hg 0 rfl; have q1 := hg 1 rfl; simp (disch := first | decide | omega | (simp only [nx]; first | done | omega)) only [go_sem] at q0 q1; clear hg; have hn' := hn; try simp only [add_next, set_next, grow_next, leave_next, drop_next] at hn')
    by_cases hlt : i < p.length
    · have b1 : decide ((i : Int) < (p.length : Int)) = true := by simp; omega
      have w1 : IntKind.i64.wrap ((i : Int) + 1) = ((i + 1 : Nat) : Int) := IntWalk.i64_in _ ⟨by omega, by omega⟩
      have hlt2 : i < q.length := by omega
      by_cases hx : p[i] = q[i]
      · have b2 : (!decide (p[i] = q[i])) = false := by simp [hx]
        (simp (disch := first | decide | omega | (simp only [nx]; first | done | omega)) only [go_sem, q0, q1, q5, b1, w1]; (repeat with_reducible refine aI ?_))
        refine ddraw_mk 9 (by kernel_rfl) ?_
        (simp (disch := first | decide | omega | (simp only [nx]; first | done | omega)) only [go_sem, q0, q1, q5, b1, b2, w1, bD_eq, u8ne]; (repeat with_reducible refine aI ?_))
        (refine ⟨by omega, (by (repeat' first | assumption | exact St.Sub.refl _ | exact RowOk.sub (by assumption) (by assumption) | refine St.Sub.trans ?_ (RowOk.sub (by assumption) (by assumption)) | refine St.Sub.add ?_ ?_ _ | refine St.Sub.set ?_ ?_ ?_ _ | refine St.Sub.keep ?_ ?_ | refine St.WF.leave ?_ _ | refine St.WF.add ?_ _ | refine St.WF.set ?_ ?_ _ | refine St.WF.grow ?_ _ _ _ | refine St.WF.keep ?_ ?_ | (first | omega | (simp only [RowOk.lo, nx]; first | done | omega)))), ?_⟩; refine ⟨by omega, ?_, ?_⟩; all_goals (try (first | (simp (disch := first | decide | omega | (simp only [nx]; first | done | omega)) only [go_sem, w1]; first | done | rfl) | rfl)))
        intro j hj
        by_cases e : j = i
        · subst e; rw [List.getElem?_eq_getElem hlt, List.getElem?_eq_getElem hlt2, hx]
        · exact hsame j (by omega)
      · have b2 : (!decide (p[i] = q[i])) = true := by simp [hx]
        (simp (disch := first | decide | omega | (simp only [nx]; first | done | omega)) only [go_sem, q0, q1, q5, b1]; (repeat with_reducible refine aI ?_))
        refine ddraw_mk 9 (by kernel_rfl) ?_
        (simp (disch := first | decide | omega | (simp only [nx]; first | done | omega)) only [go_sem, q0, q1, q5, b1, b2, bD_eq, u8ne]; (repeat with_reducible refine aI ?_))
        refine ⟨?_, (by (repeat' first | assumption | exact St.Sub.refl _ | exact RowOk.sub (by assumption) (by assumption) | refine St.Sub.trans ?_ (RowOk.sub (by assumption) (by assumption)) | refine St.Sub.add ?_ ?_ _ | refine St.Sub.set ?_ ?_ ?_ _ | refine St.Sub.keep ?_ ?_ | refine St.WF.leave ?_ _ | refine St.WF.add ?_ _ | refine St.WF.set ?_ ?_ _ | refine St.WF.grow ?_ _ _ _ | refine St.WF.keep ?_ ?_ | (first | omega | (simp only [RowOk.lo, nx]; first | done | omega))))⟩
        rw [decide_eq_false]
        · rfl
        · intro e; subst e; exact hx rfl
    · have b1 : decide ((i : Int) < (p.length : Int)) = false := by simp; omega
      (simp (disch := first | decide | omega | (simp only [nx]; first | done | omega)) only [go_sem, q0, q1, q5, b1]; (repeat with_reducible refine aI ?_))
      refine ⟨?_, (by (repeat' first | assumption | exact St.Sub.refl _ | exact RowOk.sub (by assumption) (by assumption) | refine St.Sub.trans ?_ (RowOk.sub (by assumption) (by assumption)) | refine St.Sub.add ?_ ?_ _ | refine St.Sub.set ?_ ?_ ?_ _ | refine St.Sub.keep ?_ ?_ | refine St.WF.leave ?_ _ | refine St.WF.add ?_ _ | refine St.WF.set ?_ ?_ _ | refine St.WF.grow ?_ _ _ _ | refine St.WF.keep ?_ ?_ | (first | omega | (simp only [RowOk.lo, nx]; first | done | omega))))⟩
      rw [decide_eq_true]
      · rfl
      · refine List.ext_getElem? fun j => ?_
        by_cases hj : j < i
        · exact hsame j hj
        · rw [List.getElem?_eq_none (by omega), List.getElem?_eq_none (by omega)]
  · have b0 : ((p.length : Int) != (q.length : Int)) = true := by simp; omega
    (simp (disch := first | decide | omega | (simp only [nx]; first | done | omega)) only [go_sem, b0]; (repeat with_reducible refine aI ?_))
    refine ⟨?_, (by (repeat' first | assumption | exact St.Sub.refl _ | exact RowOk.sub (by assumption) (by assumption) | refine St.Sub.trans ?_ (RowOk.sub (by assumption) (by assumption)) | refine St.Sub.add ?_ ?_ _ | refine St.Sub.set ?_ ?_ ?_ _ | refine St.Sub.keep ?_ ?_ | refine St.WF.leave ?_ _ | refine St.WF.add ?_ _ | refine St.WF.set ?_ ?_ _ | refine St.WF.grow ?_ _ _ _ | refine St.WF.keep ?_ ?_ | (first | omega | (simp only [RowOk.lo, nx]; first | done | omega))))⟩
    rw [decide_eq_false]
    · rfl
    · intro e; subst e; exact hl rfl
end Go.Proofs.YtbcabejdchkpmaaDoor

namespace Go.Proofs.YtbcabejdchkpmaaDoor
open Go.RowKit
section
set_option maxRecDepth 200000
set_option maxHeartbeats 8000000
theorem bin_rnil_eql {x : Operand} (c : Value) : dbin Tryd.prog .eql 23 x (.const c) (.v (.pointer none)) (.v (.pointer none)) = some (True, .v (.bool true)) := by cases x <;> kernel_rfl
theorem field_n (d : D) : DPure Tryd.prog 33 [.v (.pointer none), d] undefD := by
  refine dpure_of_dwp mixed Tryd.func33 rfl (fun _ _ => by kernel_rfl) (rs := []) rfl (by kernel_rfl) trivial (fun S hS => ?_)
  (simp (disch := first | decide | omega | (simp only [nx]; first | done | omega)) only [go_sem, bin_rnil_eql]; (repeat with_reducible refine aI ?_))
  refine ⟨?_, (by (repeat' first | assumption | exact St.Sub.refl _ | exact RowOk.sub (by assumption) (by assumption) | refine St.Sub.trans ?_ (RowOk.sub (by assumption) (by assumption)) | refine St.Sub.add ?_ ?_ _ | refine St.Sub.set ?_ ?_ ?_ _ | refine St.Sub.keep ?_ ?_ | refine St.WF.leave ?_ _ | refine St.WF.add ?_ _ | refine St.WF.set ?_ ?_ _ | refine St.WF.grow ?_ _ _ _ | refine St.WF.keep ?_ ?_ | (first | omega | (simp only [RowOk.lo, nx]; first | done | omega))))⟩
  rfl
theorem byte_n : DPure Tryd.prog 7 [.v (.pointer none)] (.v (.int .u8 0)) := by
  refine dpure_of_dwp mixed Tryd.func7 rfl (fun _ _ => by kernel_rfl) (rs := [.tmp 2]) rfl (by kernel_rfl) trivial (fun S hS => ?_)
  (simp (disch := first | decide | omega | (simp only [nx]; first | done | omega)) only [go_sem]; (repeat with_reducible refine aI ?_))
  refine DCalls.of_pure (field_n _) ?_
  (simp (disch := first | decide | omega | (simp only [nx]; first | done | omega)) only [go_sem]; (repeat with_reducible refine aI ?_))
  refine ⟨?_, (by (repeat' first | assumption | exact St.Sub.refl _ | exact RowOk.sub (by assumption) (by assumption) | refine St.Sub.trans ?_ (RowOk.sub (by assumption) (by assumption)) | refine St.Sub.add ?_ ?_ _ | refine St.Sub.set ?_ ?_ ?_ _ | refine St.Sub.keep ?_ ?_ | refine St.WF.leave ?_ _ | refine St.WF.add ?_ _ | refine St.WF.set ?_ ?_ _ | refine St.WF.grow ?_ _ _ _ | refine St.WF.keep ?_ ?_ | (first | omega | (simp only [RowOk.lo, nx]; first | done | omega))))⟩
  rfl
theorem awake02_d : DPure Tryd.prog 18 [] (.v (.bool true)) := by
  refine dpure_of_dwp mixed Tryd.func18 rfl (fun _ _ => by kernel_rfl) (rs := [.tmp 0]) rfl (by kernel_rfl) trivial (fun S hS => ?_)
  (simp (disch := first | decide | omega | (simp only [nx]; first | done | omega)) only [go_sem]; (repeat with_reducible refine aI ?_))
  refine (number_w (k := S.next) (bs := []) 300 (by unfold IsU64; omega) (by show S.next < S.next + 1; omega) ⟨.full, by (first | (simp (disch := first | decide | omega | (simp only [nx]; first | done | omega)) only [go_sem]; first | done | rfl) | rfl), .inl ⟨rfl, rfl⟩⟩ (by simp)).wf.mono ?_
  rintro _ T1 ⟨⟨rfl, hW1, hF1⟩, hT1⟩
  have hn1 : S.next + 1 ≤ T1.next := hF1.next
  (simp (disch := first | decide | omega | (simp only [nx]; first | done | omega)) only [go_sem]; (repeat with_reducible refine aI ?_))
  refine (int_w (-1) (by unfold IsI64; omega) (by omega) hW1 (by simp [show numB 300 = [172, 2] from by decide +kernel])).wf.mono ?_
  rintro _ T2 ⟨⟨rfl, hW2, hF2⟩, hT2⟩
  have hn2 := hF2.next
  have hbs : ([] : List UInt8) ++ numB 300 ++ numB (zig (-1)) = [172, 2, 1] := by decide +kernel
  rw [hbs] at hW2
  (simp (disch := first | decide | omega | (simp only [nx]; first | done | omega)) only [go_sem]; (repeat with_reducible refine aI ?_))
  refine (out_w hW2 (by simp)).wf.mono ?_
  rintro _ T3 ⟨⟨ow, rfl, hW3, hF3⟩, hT3⟩
  (simp (disch := first | decide | omega | (simp only [nx]; first | done | omega)) only [go_sem]; (repeat with_reducible refine aI ?_))
  refine DCalls.of_pure (bytesEq_d ow .full [172, 2, 1] [172, 2, 1] (by simp) (by simp)) ?_
  rw [decide_eq_true rfl]
  (simp (disch := first | decide | omega | (simp only [nx]; first | done | omega)) only [go_sem]; (repeat with_reducible refine aI ?_))
  have hF := (hF1.trans hF2).trans hF3
  have hFn := hF.next
  refine ⟨rfl, ⟨by have : S.next + 1 ≤ T3.next := hFn; omega, fun j ob e => ?_⟩⟩
  have := hS.lt e
  exact hF.ob j ob (.inl this) (add_keep hS _ j ob e)
end
end Go.Proofs.YtbcabejdchkpmaaDoor

namespace Go.Proofs.YtbcabejdchkpmaaDoor
open Go.RowKit
structure DFd where
  kind : Int
  n : Nat
  b : List UInt8
  most : Int
def cellsFd (f : DFd) : List D := [.v (.int .i64 f.kind), .v (.int .u64 (f.n : Int)), .sl .no (f.b.map bD), .v (.int .i64 f.most)]
def encFd (f : DFd) : D := .agg (cellsFd f)
structure FdOk (f : DFd) : Prop where
  kind : IsI64 f.kind
  n : IsU64 f.n
  b : f.b.length ≤ 140737488355328
  most : IsI64 f.most
theorem width_fd (f : DFd) : (encFd f).width = 4 := rfl
section
variable {P : Program} {f : Fm} {md : Region.Mode} {Zs : St → Prop}
theorem s_takeG {Q : Fm → St → Prop} (i : Nat) {l : List Oper} {dst : Option Tmp} {op : Op} {ty : TypeId} {pos : String} {aft : Array Edge} {j : Nat} {want : Bool} {og : Oper} {t : Tmp} {fuel : Nat} {L : Array Bool} {S : St} (hi : nth l i = some ⟨dst, op, ty, pos, aft, some (j, want)⟩) (hj : nth l j = some og) (ht : og.dst = some t) (hft : f t = .v (.bool want))
    (hr : (Region.ready md (List.toArray l) L).contains i = true) (hf : Region.free md (List.toArray l) L i = true) {v : D}
    (hq : ∀ S, Zs S → dquietR P f S ty op v) (h : sAny P md (List.toArray l) Zs Q fuel (L.setIfInBounds i true) (put f dst v) S) : sAny P md (List.toArray l) Zs Q (fuel + 1) L f S :=
  have hi : (List.toArray l)[i]? = some ⟨dst, op, ty, pos, aft, some (j, want)⟩ := by rw [← hi, nth_eq]; simp
  have hj' : (List.toArray l)[j]? = some og := by rw [← hj, nth_eq]; simp
  have hg : gval (List.toArray l) f ⟨dst, op, ty, pos, aft, some (j, want)⟩ = some true := by
    simp only [gval, hj', Option.bind_some, ht, hft, beq_self_eq_true]
  sAny_first hi fuel L f S (Region.free_spec hi hf) (by simpa using hr) (.inl ⟨hg, hq⟩) h
theorem s_opG {i j : Nat} {l : List Oper} {dst : Option Tmp} {op : Op} {ty : TypeId} {pos : String} {aft : Array Edge} {want : Bool} {og : Oper} {t : Tmp} {S : St} (hi : nth l i = some ⟨dst, op, ty, pos, aft, some (j, want)⟩) (hj : nth l j = some og) (ht : og.dst = some t) (hft : f t = .v (.bool want)) {K : Fm → St → Prop} (h : dop P f S ty op fun d S' => Zs S' ∧ K (put f dst d) S') : sOp P (List.toArray l) Zs i K f S := by
  have hi : (List.toArray l)[i]? = some ⟨dst, op, ty, pos, aft, some (j, want)⟩ := by rw [← hi, nth_eq]; simp
  have hj' : (List.toArray l)[j]? = some og := by rw [← hj, nth_eq]; simp
  unfold sOp; simp only [hi]; exact .inr ⟨by simp only [gval, hj', Option.bind_some, ht, hft, beq_self_eq_true], h⟩
end
section
set_option maxRecDepth 200000
set_option maxHeartbeats 16000000
theorem nxt_le {l : List UInt8} {x : Rst} {E : Except Int Nat} (hi : x.1 ≤ l.length) (hE : ∀ s, E = .ok s → s ≤ (l.drop x.1).length) : (nxt x E).1 ≤ l.length := by
  cases E with
  | ok s =>
    have := hE s rfl
    rw [List.length_drop] at this
    simp only [nxt]
    split
    · show x.1 + s ≤ _; omega
    · exact hi
  | error c =>
    simp only [nxt]
    split <;> exact hi
theorem faE_ok {l : List UInt8} {c : Int} {s : Nat} (h : faE c = .ok s) : s ≤ l.length := by
  unfold faE at h
  split at h
  · injection h with h; omega
  · cases h
theorem EAt.rfr {k q : Nat} {own : Own} {l : List UInt8} {x y : Rst} {S T : St} (h : EAt k l x S) (hkq : k ≠ q) (hq : S.ob q = some (qB own l y)) (hF : RFr q S T) : EAt k l x T := by
  obtain ⟨o, e, h1, h2⟩ := h
  refine ⟨o, e, hF.ob k _ hkq h1, ?_⟩
  rcases h2 with h2 | ⟨h2, b, h3, h4, h5⟩
  · exact .inl h2
  · refine .inr ⟨h2, b, h3, h4, hF.ob b _ ?_ h5⟩
    rintro rfl
    rw [hq] at h5
    simp [qB] at h5
theorem told_x {S : St} {k : Nat} {c p : Int} {d : D} (h : ErrAt k c p S d) : DAt Tryd.prog 15 [d, .v (.int .i64 c), .v (.int .i64 p)] S (.v (.bool true)) := by
  refine dcalls_inline mixed Tryd.func15 rfl (fun _ _ => by kernel_rfl) (rs := [.tmp 6]) rfl (by kernel_rfl) (fun hS => ?_)
  rcases h with ⟨rfl, rfl⟩ | ⟨hc, b, hb, rfl, h4⟩
  · have b1 : ((0 : Int) == 0) = true := by decide
    (simp (disch := first | decide | omega | (simp only [nx]; first | done | omega)) only [go_sem, b1]; (repeat with_reducible refine aI ?_))
  · have b1 : (c == 0) = false := by simpa using hc
    have hch : Chain S [p] c (atD b) := .at_ h4 (.code c)
    unfold atD at hch ⊢
    (simp (disch := first | decide | omega | (simp only [nx]; first | done | omega)) only [go_sem, b1]; (repeat with_reducible refine aI ?_))
    refine DCalls.mono (code01_at hch (by simp)) ?_
    rintro _ _ ⟨rfl, rfl⟩
    (simp (disch := first | decide | omega | (simp only [nx]; first | done | omega)) only [go_sem, beq_self_eq_true]; (repeat with_reducible refine aI ?_))
    refine DCalls.mono (place_at hch) ?_
    rintro _ _ ⟨rfl, rfl⟩
    (simp (disch := first | decide | omega | (simp only [nx]; first | done | omega)) only [go_sem, outP, beq_self_eq_true]; (repeat with_reducible refine aI ?_))
def tot (fs : List DFd) (i : Nat) : Nat := fs.length + ((fs.take i).map fun f => f.b.length).sum
theorem tot_succ {fs : List DFd} {i : Nat} (h : i < fs.length) : tot fs (i + 1) = tot fs i + fs[i].b.length := by
  unfold tot
  rw [List.take_succ_eq_append_getElem h, List.map_append, List.sum_append]
  simp [Nat.add_assoc]
theorem tot_mono {fs : List DFd} {i : Nat} : ∀ d, i + d ≤ fs.length → tot fs i ≤ tot fs (i + d)
  | 0, _ => Nat.le_refl _
  | d + 1, h => by
    have := tot_mono d (by omega : i + d ≤ fs.length)
    have := tot_succ (fs := fs) (i := i + d) (by omega)
    rw [← Nat.add_assoc]; omega
theorem great02_d (own : Own) (fs : List DFd) (hok : ∀ f ∈ fs, FdOk f) (hl : fs.length ≤ 140737488355328) : DPure Tryd.prog 19 [.sl own (fs.map encFd)] (.v (.bool (decide (400 < tot fs fs.length)))) := by
  refine dpure_of_dwp mixed Tryd.func19 rfl (fun _ _ => by kernel_rfl) (rs := [.tmp 2]) rfl (by kernel_rfl) trivial (fun S hS => ?_)
  (simp (disch := first | decide | omega | (simp only [nx]; first | done | omega)) only [go_sem]; (repeat with_reducible refine aI ?_))
  (refine dloop_st (fun t => List.contains [3, 4, 7, 8, 9, 10, 11, 12, 13, 14, 15, 16, 17, 18, 19, 20, 21, 22, 23, 24] t) (by kernel_rfl) ?_ (fs.length) (fun i f => i ≤ fs.length ∧ f 3 = .v (.int .i64 ((tot fs i : Nat) : Int)) ∧ f 4 = .v (.int .i64 (i : Nat)) ∧ (tot fs i ≤ 281474976710656)) ?_ ?_; (exact (by (repeat' first | assumption | refine St.WF.leave ?_ _ | refine St.WF.add ?_ _ | refine St.WF.set ?_ ?_ _ | refine St.WF.grow ?_ _ _ _ | refine St.WF.keep ?_ ?_ | (first | omega | (simp only [RowOk.lo, nx]; first | done | omega))))); (exact ⟨(by omega), (by (first | (simp (disch := first | decide | omega | (simp only [nx]; first | done | omega)) only [go_sem, tot, List.take_zero, List.map_nil, List.sum_nil]; first | done | rfl) | rfl)), (by (first | (simp (disch := first | decide | omega | (simp only [nx]; first | done | omega)) only [go_sem, tot, List.take_zero, List.map_nil, List.sum_nil]; first | done | rfl) | rfl)), (by unfold tot; simp; omega)⟩); intro i g tn hn hT hg hI; obtain ⟨le, q3, q4, hb⟩ := hI; have q0 := hg 0 rfl; have q2 := hg 2 rfl; simp (disch := first | decide | omega | (simp only [nx]; first | done | omega)) only [go_sem, tot, List.take_zero, List.map_nil, List.sum_nil] at q0 q2; clear hg; have hn' := hn; try simp only [add_next, set_next, grow_next, leave_next, drop_next] at hn')
  by_cases hlt : i < fs.length
  · have b1 : decide ((i : Int) < (fs.length : Int)) = true := decide_eq_true (by omega)
    by_cases h4 : tot fs i ≤ 400
    · have b2 : decide (((tot fs i : Nat) : Int) ≤ 400) = true := decide_eq_true (by omega)
      have hgd := getD_map encFd fs i hlt
      have hbk := (hok _ (List.getElem_mem hlt)).b
      have hts := tot_succ hlt
      have w1 : IntKind.i64.wrap ((i : Int) + 1) = ((i + 1 : Nat) : Int) := IntWalk.i64_in _ ⟨by omega, by omega⟩
      have w2 : IntKind.i64.wrap (((tot fs i : Nat) : Int) + (fs[i].b.length : Int)) = ((tot fs (i + 1) : Nat) : Int) := by rw [IntWalk.i64_in _ ⟨by omega, by omega⟩]; omega
      have hg2 : (encFd fs[i]).cells = cellsFd fs[i] := rfl
      (simp (disch := first | decide | omega | (simp only [nx]; first | done | omega)) only [go_sem, q0, q2, q3, q4, b1, b2, hgd, hg2, encFd, cellsFd, w2]; (repeat with_reducible refine aI ?_))
      (refine ⟨by omega, (by (repeat' first | assumption | exact St.Sub.refl _ | exact RowOk.sub (by assumption) (by assumption) | refine St.Sub.trans ?_ (RowOk.sub (by assumption) (by assumption)) | refine St.Sub.add ?_ ?_ _ | refine St.Sub.set ?_ ?_ ?_ _ | refine St.Sub.keep ?_ ?_ | refine St.WF.leave ?_ _ | refine St.WF.add ?_ _ | refine St.WF.set ?_ ?_ _ | refine St.WF.grow ?_ _ _ _ | refine St.WF.keep ?_ ?_ | (first | omega | (simp only [RowOk.lo, nx]; first | done | omega)))), ?_⟩; refine ⟨by omega, ?_, ?_, ?_⟩; all_goals (try (first | (simp (disch := first | decide | omega | (simp only [nx]; first | done | omega)) only [go_sem, w1]; first | done | rfl) | rfl)))
      omega
    · have b2 : decide (((tot fs i : Nat) : Int) ≤ 400) = false := decide_eq_false (by omega)
      have b3 : decide ((400 : Int) < ((tot fs i : Nat) : Int)) = true := decide_eq_true (by omega)
      have := tot_mono (fs := fs) (i := i) (fs.length - i) (by omega)
      rw [show i + (fs.length - i) = fs.length by omega] at this
      (simp (disch := first | decide | omega | (simp only [nx]; first | done | omega)) only [go_sem, q0, q2, q3, q4, b1, b2, b3]; (repeat with_reducible refine aI ?_))
      refine ⟨?_, (by (repeat' first | assumption | exact St.Sub.refl _ | exact RowOk.sub (by assumption) (by assumption) | refine St.Sub.trans ?_ (RowOk.sub (by assumption) (by assumption)) | refine St.Sub.add ?_ ?_ _ | refine St.Sub.set ?_ ?_ ?_ _ | refine St.Sub.keep ?_ ?_ | refine St.WF.leave ?_ _ | refine St.WF.add ?_ _ | refine St.WF.set ?_ ?_ _ | refine St.WF.grow ?_ _ _ _ | refine St.WF.keep ?_ ?_ | (first | omega | (simp only [RowOk.lo, nx]; first | done | omega))))⟩
      rw [decide_eq_true (by omega)]
      rfl
  · have hie : i = fs.length := by omega
    subst hie
    have b1 : decide ((fs.length : Int) < (fs.length : Int)) = false := by simp
    have b3 : decide ((400 : Int) < ((tot fs fs.length : Nat) : Int)) = decide (400 < tot fs fs.length) := by congr 1; exact propext ⟨fun h => by omega, fun h => by omega⟩
    (simp (disch := first | decide | omega | (simp only [nx]; first | done | omega)) only [go_sem, q0, q2, q3, q4, b1, b3]; (repeat with_reducible refine aI ?_))
    refine ⟨?_, (by (repeat' first | assumption | exact St.Sub.refl _ | exact RowOk.sub (by assumption) (by assumption) | refine St.Sub.trans ?_ (RowOk.sub (by assumption) (by assumption)) | refine St.Sub.add ?_ ?_ _ | refine St.Sub.set ?_ ?_ ?_ _ | refine St.Sub.keep ?_ ?_ | refine St.WF.leave ?_ _ | refine St.WF.add ?_ _ | refine St.WF.set ?_ ?_ _ | refine St.WF.grow ?_ _ _ _ | refine St.WF.keep ?_ ?_ | (first | omega | (simp only [RowOk.lo, nx]; first | done | omega))))⟩
    rfl
theorem bsV_len (l : List UInt8) (x : Rst) (m : Nat) (hl : l.length ≤ 400) : (bsV l x m).length ≤ 1000000 := by
  unfold bsV
  split
  · split
    · simp
    · split
      · simp
      · split
        · simp
        · simp only [List.length_take, List.length_drop]; omega
  · simp
theorem rwV_len (l : List UInt8) (x : Rst) (m : Nat) (hl : l.length ≤ 400) : (rwV l x m).length ≤ 1000000 := by
  unfold rwV
  split
  · split
    · simp
    · simp only [List.length_take, List.length_drop]; omega
  · simp
theorem reads_x {S : St} {k q : Nat} {own : Own} {l : List UInt8} {x : Rst} (f : DFd) (hkq : k ≠ q) (hk : k < S.next) (hr : EAt k l x S) (hq : S.ob q = some (qB own l x)) (hi : x.1 ≤ l.length) (hl : l.length ≤ 400) (hok : FdOk f) :
    DCalls Tryd.prog 21 [.loc k 0, .loc q 0, encFd f] S fun d T => d = .v (.bool true) ∧ ∃ y : Rst, y.1 ≤ l.length ∧ EAt k l y T ∧ T.ob q = some (qB own l y) ∧ S.next ≤ T.next ∧ ∀ j o, j ≠ k → j ≠ q → S.ob j = some o → T.ob j = some o := by
  have hl' : l.length ≤ 1099511627776 := by omega
  have hl2 : l.length ≤ 1048576 := by omega
  have hm := hok.most
  obtain ⟨kd, n, b, most⟩ := f
  refine dcalls_inline mixed Tryd.func21 rfl (fun _ _ => by kernel_rfl) (rs := [.tmp 6]) rfl (by kernel_rfl) (fun hS => ?_)
  have hqn := hS.lt hq
  obtain ⟨S1, hS1⟩ : ∃ S1 : St, S1 = S.add (.box 45 [.v (.int .i64 kd), .v (.int .u64 (n : Int)), .sl .no (b.map bD), .v (.int .i64 most)]) := ⟨_, rfl⟩
  have hn1 : S1.next = S.next + 1 := by rw [hS1]; rfl
  have k1 : ∀ j o, S.ob j = some o → S1.ob j = some o := fun j o e => by have := hS.lt e; rw [hS1, add_ne this, e]
  have r1 := hr.keep k1
  have q1 := k1 _ _ hq
  have f1 : S1.ob S.next = some (.box 45 [.v (.int .i64 kd), .v (.int .u64 (n : Int)), .sl .no (b.map bD), .v (.int .i64 most)]) := by rw [hS1]; exact add_eq
  (simp (disch := first | decide | omega | (simp only [nx]; first | done | omega)) only [go_sem, encFd, cellsFd]; (repeat with_reducible refine aI ?_))
  rw [← hS1]
  by_cases e0 : kd = 0
  · have k0_ : (kd == 0) = true := by simp; omega
    (simp (disch := first | decide | omega | (simp only [nx]; first | done | omega)) only [go_sem, f1, k0_]; (repeat with_reducible refine aI ?_))
    refine (byte_x (by omega) r1 hi hl').wf.mono ?_
    rintro _ T1 ⟨⟨rfl, r2, F1⟩, W1⟩
    have q2 := F1.ob q _ (Ne.symm hkq) q1
    have f2 := F1.ob S.next _ (by omega) f1
    (simp (disch := first | decide | omega | (simp only [nx]; first | done | omega)) only [go_sem]; (repeat with_reducible refine aI ?_))
    refine (byte_q q2 hi hl2).mono ?_
    rintro _ T2 ⟨rfl, q3, F2⟩
    have r3 := r2.rfr hkq q2 F2
    have f3 := F2.ob S.next _ (by omega) f2
    (simp (disch := first | decide | omega | (simp only [nx]; first | done | omega)) only [go_sem, bD, beq_self_eq_true]; (repeat with_reducible refine aI ?_))
    exact ⟨_, nxt_le hi (fun s h => byE_ok h), r3, q3, by have := F1.next; have := F2.next; omega, fun j o hj hj2 e => F2.ob j o hj2 (F1.ob j o hj (k1 j o e))⟩
  by_cases e1 : kd = 1
  · have k0_ : (kd == 0) = false := by simp; omega
    have k1_ : (kd == 1) = true := by simp; omega
    (simp (disch := first | decide | omega | (simp only [nx]; first | done | omega)) only [go_sem, f1, k0_, k1_]; (repeat with_reducible refine aI ?_))
    refine ddraw_any (fun S' => S'.ob S.next = some (.box 45 [.v (.int .i64 kd), .v (.int .u64 (n : Int)), .sl .no (b.map bD), .v (.int .i64 most)])) 10 (by (first | (simp (disch := first | decide | omega | (simp only [nx]; first | done | omega)) only [go_sem, f1]; first | done | rfl) | rfl)) (by kernel_rfl) ?_
    (refine s_take 0 rfl (by kernel_rfl) (by kernel_rfl) (v := ?v1) (fun S' hz => dquietR_of ?h1) <| s_take 1 rfl (by kernel_rfl) (by kernel_rfl) (v := ?v2) (fun S' hz => dquietR_of ?h2) <| s_take 2 rfl (by kernel_rfl) (by kernel_rfl) (v := ?v3) (fun S' hz => dquietR_of ?h3) <| s_take 4 rfl (by kernel_rfl) (by kernel_rfl) (v := ?v4) (fun S' hz => dquietR_of ?h4) <| s_take 5 rfl (by kernel_rfl) (by kernel_rfl) (v := ?v5) (fun S' hz => dquietR_of ?h5) <| s_take 6 rfl (by kernel_rfl) (by kernel_rfl) (v := ?v6) (fun S' hz => dquietR_of ?h6) <| ?k6; (case h1 | h2 | h3 | h4 | h5 | h6 => ((simp (disch := first | decide | omega | (simp only [nx]; first | done | omega)) only [go_sem, f1, hz]; (repeat with_reducible refine aI ?_)); first | done | exact rfl | omega)))
    (refine s_split [3] (by kernel_rfl) (by simp) ?_; intro j_ hj_; obtain rfl : j_ = 3 := (by simpa using hj_); clear hj_; refine s_op rfl ?_; (simp (disch := first | decide | omega | (simp only [nx]; first | done | omega)) only [go_sem, f1]; (repeat with_reducible refine aI ?_)))
    refine (number_x (m := n) (by omega) r1 hi hl').wf.mono ?_
    rintro _ T1 ⟨⟨rfl, r2, F1⟩, W1⟩
    have q2 := F1.ob q _ (Ne.symm hkq) q1
    have f2 := F1.ob S.next _ (by omega) f1
    refine ⟨f2, ?_⟩
    (refine s_split [7] (by kernel_rfl) (by simp) ?_; intro j_ hj_; obtain rfl : j_ = 7 := (by simpa using hj_); clear hj_; refine s_op rfl ?_; (simp (disch := first | decide | omega | (simp only [nx]; first | done | omega)) only [go_sem, f2]; (repeat with_reducible refine aI ?_)))
    refine (number_q (m := n) q2 hi hl2).mono ?_
    rintro _ T2 ⟨rfl, q3, F2⟩
    have r3 := r2.rfr hkq q2 F2
    have f3 := F2.ob S.next _ (by omega) f2
    refine ⟨f3, ?_⟩
    (refine s_take 8 rfl (by kernel_rfl) (by kernel_rfl) (v := ?v7) (fun S' hz => dquietR_of ?h7) <| s_take 9 rfl (by kernel_rfl) (by kernel_rfl) (v := ?v8) (fun S' hz => dquietR_of ?h8) <| ?k8; (case h7 | h8 => ((simp (disch := first | decide | omega | (simp only [nx]; first | done | omega)) only [go_sem, f3, beq_self_eq_true, hz]; (repeat with_reducible refine aI ?_)); first | done | exact rfl | omega)))
    (refine s_done (by kernel_rfl) ?_; (simp (disch := first | decide | omega | (simp only [nx]; first | done | omega)) only [go_sem, f3, beq_self_eq_true]; (repeat with_reducible refine aI ?_)))
    exact ⟨_, nxt_le hi (fun s h => nuE_ok h), r3, q3, by have := F1.next; have := F2.next; omega, fun j o hj hj2 e => F2.ob j o hj2 (F1.ob j o hj (k1 j o e))⟩
  by_cases e2 : kd = 2
  · have k0_ : (kd == 0) = false := by simp; omega
    have k1_ : (kd == 1) = false := by simp; omega
    have k2_ : (kd == 2) = true := by simp; omega
    (simp (disch := first | decide | omega | (simp only [nx]; first | done | omega)) only [go_sem, f1, k0_, k1_, k2_]; (repeat with_reducible refine aI ?_))
    refine (int_x (by omega) r1 hi hl').wf.mono ?_
    rintro _ T1 ⟨⟨rfl, r2, F1⟩, W1⟩
    have q2 := F1.ob q _ (Ne.symm hkq) q1
    have f2 := F1.ob S.next _ (by omega) f1
    (simp (disch := first | decide | omega | (simp only [nx]; first | done | omega)) only [go_sem]; (repeat with_reducible refine aI ?_))
    refine (int_q q2 hi hl2).mono ?_
    rintro _ T2 ⟨rfl, q3, F2⟩
    have r3 := r2.rfr hkq q2 F2
    have f3 := F2.ob S.next _ (by omega) f2
    (simp (disch := first | decide | omega | (simp only [nx]; first | done | omega)) only [go_sem, beq_self_eq_true]; (repeat with_reducible refine aI ?_))
    exact ⟨_, nxt_le hi (fun s h => nuE_ok h), r3, q3, by have := F1.next; have := F2.next; omega, fun j o hj hj2 e => F2.ob j o hj2 (F1.ob j o hj (k1 j o e))⟩
  by_cases e3 : kd = 3
  · have k0_ : (kd == 0) = false := by simp; omega
    have k1_ : (kd == 1) = false := by simp; omega
    have k2_ : (kd == 2) = false := by simp; omega
    have k3_ : (kd == 3) = true := by simp; omega
    (simp (disch := first | decide | omega | (simp only [nx]; first | done | omega)) only [go_sem, f1, k0_, k1_, k2_, k3_]; (repeat with_reducible refine aI ?_))
    refine (bool_x (by omega) r1 hi hl').wf.mono ?_
    rintro _ T1 ⟨⟨rfl, r2, F1⟩, W1⟩
    have q2 := F1.ob q _ (Ne.symm hkq) q1
    have f2 := F1.ob S.next _ (by omega) f1
    (simp (disch := first | decide | omega | (simp only [nx]; first | done | omega)) only [go_sem]; (repeat with_reducible refine aI ?_))
    refine (bool_q q2 hi hl2).mono ?_
    rintro _ T2 ⟨rfl, q3, F2⟩
    have r3 := r2.rfr hkq q2 F2
    have f3 := F2.ob S.next _ (by omega) f2
    (simp (disch := first | decide | omega | (simp only [nx]; first | done | omega)) only [go_sem, beq_self_eq_true]; (repeat with_reducible refine aI ?_))
    exact ⟨_, nxt_le hi (fun s h => boE_ok h), r3, q3, by have := F1.next; have := F2.next; omega, fun j o hj hj2 e => F2.ob j o hj2 (F1.ob j o hj (k1 j o e))⟩
  by_cases e4 : kd = 4
  · have k0_ : (kd == 0) = false := by simp; omega
    have k1_ : (kd == 1) = false := by simp; omega
    have k2_ : (kd == 2) = false := by simp; omega
    have k3_ : (kd == 3) = false := by simp; omega
    have k4_ : (kd == 4) = true := by simp; omega
    (simp (disch := first | decide | omega | (simp only [nx]; first | done | omega)) only [go_sem, f1, k0_, k1_, k2_, k3_, k4_]; (repeat with_reducible refine aI ?_))
    refine ddraw_any (fun S' => S'.ob S.next = some (.box 45 [.v (.int .i64 kd), .v (.int .u64 (n : Int)), .sl .no (b.map bD), .v (.int .i64 most)])) 10 (by (first | (simp (disch := first | decide | omega | (simp only [nx]; first | done | omega)) only [go_sem, f1]; first | done | rfl) | rfl)) (by kernel_rfl) ?_
    (refine s_take 0 rfl (by kernel_rfl) (by kernel_rfl) (v := ?v9) (fun S' hz => dquietR_of ?h9) <| s_take 1 rfl (by kernel_rfl) (by kernel_rfl) (v := ?v10) (fun S' hz => dquietR_of ?h10) <| s_take 2 rfl (by kernel_rfl) (by kernel_rfl) (v := ?v11) (fun S' hz => dquietR_of ?h11) <| s_take 4 rfl (by kernel_rfl) (by kernel_rfl) (v := ?v12) (fun S' hz => dquietR_of ?h12) <| s_take 5 rfl (by kernel_rfl) (by kernel_rfl) (v := ?v13) (fun S' hz => dquietR_of ?h13) <| s_take 6 rfl (by kernel_rfl) (by kernel_rfl) (v := ?v14) (fun S' hz => dquietR_of ?h14) <| ?k14; (case h9 | h10 | h11 | h12 | h13 | h14 => ((simp (disch := first | decide | omega | (simp only [nx]; first | done | omega)) only [go_sem, f1, hz]; (repeat with_reducible refine aI ?_)); first | done | exact rfl | omega)))
    (refine s_split [3] (by kernel_rfl) (by simp) ?_; intro j_ hj_; obtain rfl : j_ = 3 := (by simpa using hj_); clear hj_; refine s_op rfl ?_; (simp (disch := first | decide | omega | (simp only [nx]; first | done | omega)) only [go_sem, f1]; (repeat with_reducible refine aI ?_)))
    refine (bytes_x hm (by omega) r1 hi hl').wf.mono ?_
    rintro _ T1 ⟨⟨⟨o1, rfl⟩, r2, F1⟩, W1⟩
    have q2 := F1.ob q _ (Ne.symm hkq) q1
    have f2 := F1.ob S.next _ (by omega) f1
    refine ⟨f2, ?_⟩
    (refine s_split [7] (by kernel_rfl) (by simp) ?_; intro j_ hj_; obtain rfl : j_ = 7 := (by simpa using hj_); clear hj_; refine s_op rfl ?_; (simp (disch := first | decide | omega | (simp only [nx]; first | done | omega)) only [go_sem, f2]; (repeat with_reducible refine aI ?_)))
    refine (bytes_q hm q2 hi hl2).mono ?_
    rintro _ T2 ⟨⟨o2, rfl⟩, q3, F2⟩
    have r3 := r2.rfr hkq q2 F2
    have f3 := F2.ob S.next _ (by omega) f2
    refine ⟨f3, ?_⟩
    (refine s_split [8] (by kernel_rfl) (by simp) ?_; intro j_ hj_; obtain rfl : j_ = 8 := (by simpa using hj_); clear hj_; refine s_op rfl ?_; (simp (disch := first | decide | omega | (simp only [nx]; first | done | omega)) only [go_sem, f3]; (repeat with_reducible refine aI ?_)))
    refine DCalls.of_pure (bytesEq_d _ _ _ _ (bsV_len _ _ _ hl) (bsV_len _ _ _ hl)) ?_
    rw [decide_eq_true rfl]
    refine ⟨f3, ?_⟩
    (refine s_take 9 rfl (by kernel_rfl) (by kernel_rfl) (v := ?v15) (fun S' hz => dquietR_of ?h15) ?k15; (case h15 => ((simp (disch := first | decide | omega | (simp only [nx]; first | done | omega)) only [go_sem, f3, hz]; (repeat with_reducible refine aI ?_)); first | done | exact rfl | omega)))
    (refine s_done (by kernel_rfl) ?_; (simp (disch := first | decide | omega | (simp only [nx]; first | done | omega)) only [go_sem, f3, beq_self_eq_true]; (repeat with_reducible refine aI ?_)))
    exact ⟨_, nxt_le hi (fun s h => bsE_ok h), r3, q3, by have := F1.next; have := F2.next; omega, fun j o hj hj2 e => F2.ob j o hj2 (F1.ob j o hj (k1 j o e))⟩
  by_cases e5 : kd = 5
  · have k0_ : (kd == 0) = false := by simp; omega
    have k1_ : (kd == 1) = false := by simp; omega
    have k2_ : (kd == 2) = false := by simp; omega
    have k3_ : (kd == 3) = false := by simp; omega
    have k4_ : (kd == 4) = false := by simp; omega
    have k5_ : (kd == 5) = true := by simp; omega
    (simp (disch := first | decide | omega | (simp only [nx]; first | done | omega)) only [go_sem, f1, k0_, k1_, k2_, k3_, k4_, k5_]; (repeat with_reducible refine aI ?_))
    refine ddraw_any (fun S' => S'.ob S.next = some (.box 45 [.v (.int .i64 kd), .v (.int .u64 (n : Int)), .sl .no (b.map bD), .v (.int .i64 most)])) 11 (by (first | (simp (disch := first | decide | omega | (simp only [nx]; first | done | omega)) only [go_sem, f1]; first | done | rfl) | rfl)) (by kernel_rfl) ?_
    (refine s_take 0 rfl (by kernel_rfl) (by kernel_rfl) (v := ?v16) (fun S' hz => dquietR_of ?h16) <| s_take 1 rfl (by kernel_rfl) (by kernel_rfl) (v := ?v17) (fun S' hz => dquietR_of ?h17) <| s_take 2 rfl (by kernel_rfl) (by kernel_rfl) (v := ?v18) (fun S' hz => dquietR_of ?h18) <| s_take 4 rfl (by kernel_rfl) (by kernel_rfl) (v := ?v19) (fun S' hz => dquietR_of ?h19) <| s_take 5 rfl (by kernel_rfl) (by kernel_rfl) (v := ?v20) (fun S' hz => dquietR_of ?h20) <| s_take 6 rfl (by kernel_rfl) (by kernel_rfl) (v := ?v21) (fun S' hz => dquietR_of ?h21) <| ?k21; (case h16 | h17 | h18 | h19 | h20 | h21 => ((simp (disch := first | decide | omega | (simp only [nx]; first | done | omega)) only [go_sem, f1, hz]; (repeat with_reducible refine aI ?_)); first | done | exact rfl | omega)))
    (refine s_split [3] (by kernel_rfl) (by simp) ?_; intro j_ hj_; obtain rfl : j_ = 3 := (by simpa using hj_); clear hj_; refine s_op rfl ?_; (simp (disch := first | decide | omega | (simp only [nx]; first | done | omega)) only [go_sem, f1]; (repeat with_reducible refine aI ?_)))
    refine (text_x hm (by omega) r1 hi hl').wf.mono ?_
    rintro _ T1 ⟨⟨rfl, r2, F1⟩, W1⟩
    have q2 := F1.ob q _ (Ne.symm hkq) q1
    have f2 := F1.ob S.next _ (by omega) f1
    refine ⟨f2, ?_⟩
    (refine s_split [7] (by kernel_rfl) (by simp) ?_; intro j_ hj_; obtain rfl : j_ = 7 := (by simpa using hj_); clear hj_; refine s_op rfl ?_; (simp (disch := first | decide | omega | (simp only [nx]; first | done | omega)) only [go_sem, f2]; (repeat with_reducible refine aI ?_)))
    refine (bytes_q hm q2 hi hl2).mono ?_
    rintro _ T2 ⟨⟨o2, rfl⟩, q3, F2⟩
    have r3 := r2.rfr hkq q2 F2
    have f3 := F2.ob S.next _ (by omega) f2
    refine ⟨f3, ?_⟩
    (refine s_take 8 rfl (by kernel_rfl) (by kernel_rfl) (v := ?v22) (fun S' hz => dquietR_of ?h22) <| s_take 9 rfl (by kernel_rfl) (by kernel_rfl) (v := ?v23) (fun S' hz => dquietR_of ?h23) <| s_take 10 rfl (by kernel_rfl) (by kernel_rfl) (v := ?v24) (fun S' hz => dquietR_of ?h24) <| ?k24; (case h22 | h23 | h24 => ((simp (disch := first | decide | omega | (simp only [nx]; first | done | omega)) only [go_sem, f3, beq_self_eq_true, hz]; (repeat with_reducible refine aI ?_)); first | done | exact rfl | omega)))
    (refine s_done (by kernel_rfl) ?_; (simp (disch := first | decide | omega | (simp only [nx]; first | done | omega)) only [go_sem, f3, beq_self_eq_true]; (repeat with_reducible refine aI ?_)))
    exact ⟨_, nxt_le hi (fun s h => bsE_ok h), r3, q3, by have := F1.next; have := F2.next; omega, fun j o hj hj2 e => F2.ob j o hj2 (F1.ob j o hj (k1 j o e))⟩
  by_cases e6 : kd = 6
  · have k0_ : (kd == 0) = false := by simp; omega
    have k1_ : (kd == 1) = false := by simp; omega
    have k2_ : (kd == 2) = false := by simp; omega
    have k3_ : (kd == 3) = false := by simp; omega
    have k4_ : (kd == 4) = false := by simp; omega
    have k5_ : (kd == 5) = false := by simp; omega
    have k6_ : (kd == 6) = true := by simp; omega
    (simp (disch := first | decide | omega | (simp only [nx]; first | done | omega)) only [go_sem, f1, k0_, k1_, k2_, k3_, k4_, k5_, k6_]; (repeat with_reducible refine aI ?_))
    refine (fail_x most r1).wf.mono ?_
    rintro _ T1 ⟨⟨rfl, r2, F1⟩, W1⟩
    have q2 := F1.ob q _ (Ne.symm hkq) q1
    have f2 := F1.ob S.next _ (by omega) f1
    (simp (disch := first | decide | omega | (simp only [nx]; first | done | omega)) only [go_sem, f2]; (repeat with_reducible refine aI ?_))
    refine (fail_q most q2).mono ?_
    rintro _ T2 ⟨rfl, q3, F2⟩
    have r3 := r2.rfr hkq q2 F2
    have f3 := F2.ob S.next _ (by omega) f2
    (simp (disch := first | decide | omega | (simp only [nx]; first | done | omega)) only [go_sem, f3]; (repeat with_reducible refine aI ?_))
    exact ⟨_, nxt_le hi (fun s h => faE_ok h), r3, q3, by have := F1.next; have := F2.next; omega, fun j o hj hj2 e => F2.ob j o hj2 (F1.ob j o hj (k1 j o e))⟩
  have k0_ : (kd == 0) = false := by simp; omega
  have k1_ : (kd == 1) = false := by simp; omega
  have k2_ : (kd == 2) = false := by simp; omega
  have k3_ : (kd == 3) = false := by simp; omega
  have k4_ : (kd == 4) = false := by simp; omega
  have k5_ : (kd == 5) = false := by simp; omega
  have k6_ : (kd == 6) = false := by simp; omega
  (simp (disch := first | decide | omega | (simp only [nx]; first | done | omega)) only [go_sem, f1, k0_, k1_, k2_, k3_, k4_, k5_, k6_]; (repeat with_reducible refine aI ?_))
  refine ddraw_any (fun S' => S'.ob S.next = some (.box 45 [.v (.int .i64 kd), .v (.int .u64 (n : Int)), .sl .no (b.map bD), .v (.int .i64 most)])) 10 (by (first | (simp (disch := first | decide | omega | (simp only [nx]; first | done | omega)) only [go_sem, f1]; first | done | rfl) | rfl)) (by kernel_rfl) ?_
  (refine s_take 0 rfl (by kernel_rfl) (by kernel_rfl) (v := ?v25) (fun S' hz => dquietR_of ?h25) <| s_take 1 rfl (by kernel_rfl) (by kernel_rfl) (v := ?v26) (fun S' hz => dquietR_of ?h26) <| s_take 2 rfl (by kernel_rfl) (by kernel_rfl) (v := ?v27) (fun S' hz => dquietR_of ?h27) <| s_take 4 rfl (by kernel_rfl) (by kernel_rfl) (v := ?v28) (fun S' hz => dquietR_of ?h28) <| s_take 5 rfl (by kernel_rfl) (by kernel_rfl) (v := ?v29) (fun S' hz => dquietR_of ?h29) <| s_take 6 rfl (by kernel_rfl) (by kernel_rfl) (v := ?v30) (fun S' hz => dquietR_of ?h30) <| ?k30; (case h25 | h26 | h27 | h28 | h29 | h30 => ((simp (disch := first | decide | omega | (simp only [nx]; first | done | omega)) only [go_sem, f1, hz]; (repeat with_reducible refine aI ?_)); first | done | exact rfl | omega)))
  (refine s_split [3] (by kernel_rfl) (by simp) ?_; intro j_ hj_; obtain rfl : j_ = 3 := (by simpa using hj_); clear hj_; refine s_op rfl ?_; (simp (disch := first | decide | omega | (simp only [nx]; first | done | omega)) only [go_sem, f1]; (repeat with_reducible refine aI ?_)))
  refine (raw_x hm (by omega) r1 hi hl').wf.mono ?_
  rintro _ T1 ⟨⟨⟨o1, rfl⟩, r2, F1⟩, W1⟩
  have q2 := F1.ob q _ (Ne.symm hkq) q1
  have f2 := F1.ob S.next _ (by omega) f1
  refine ⟨f2, ?_⟩
  (refine s_split [7] (by kernel_rfl) (by simp) ?_; intro j_ hj_; obtain rfl : j_ = 7 := (by simpa using hj_); clear hj_; refine s_op rfl ?_; (simp (disch := first | decide | omega | (simp only [nx]; first | done | omega)) only [go_sem, f2]; (repeat with_reducible refine aI ?_)))
  refine (raw_q hm q2 hi hl2).mono ?_
  rintro _ T2 ⟨⟨o2, rfl⟩, q3, F2⟩
  have r3 := r2.rfr hkq q2 F2
  have f3 := F2.ob S.next _ (by omega) f2
  refine ⟨f3, ?_⟩
  (refine s_split [8] (by kernel_rfl) (by simp) ?_; intro j_ hj_; obtain rfl : j_ = 8 := (by simpa using hj_); clear hj_; refine s_op rfl ?_; (simp (disch := first | decide | omega | (simp only [nx]; first | done | omega)) only [go_sem, f3]; (repeat with_reducible refine aI ?_)))
  refine DCalls.of_pure (bytesEq_d _ _ _ _ (rwV_len _ _ _ hl) (rwV_len _ _ _ hl)) ?_
  rw [decide_eq_true rfl]
  refine ⟨f3, ?_⟩
  (refine s_take 9 rfl (by kernel_rfl) (by kernel_rfl) (v := ?v31) (fun S' hz => dquietR_of ?h31) ?k31; (case h31 => ((simp (disch := first | decide | omega | (simp only [nx]; first | done | omega)) only [go_sem, f3, hz]; (repeat with_reducible refine aI ?_)); first | done | exact rfl | omega)))
  (refine s_done (by kernel_rfl) ?_; (simp (disch := first | decide | omega | (simp only [nx]; first | done | omega)) only [go_sem, f3, beq_self_eq_true]; (repeat with_reducible refine aI ?_)))
  exact ⟨_, nxt_le hi (fun s h => rwE_ok h), r3, q3, by have := F1.next; have := F2.next; omega, fun j o hj hj2 e => F2.ob j o hj2 (F1.ob j o hj (k1 j o e))⟩
end
end Go.Proofs.YtbcabejdchkpmaaDoor

namespace Go.Proofs.YtbcabejdchkpmaaDoor
open Go.ChangeShapes Go.WideShapes Go.ChangeAt Go.RowKit Go.Deep Go.Joins
section
variable {H : Type} {enc : TypeId × Value → H} {w : World}
theorem fd_u64 {n : Int} (h : (Lit.int .u64 n).wf = true) : ∃ m : Nat, n = m ∧ IsU64 m := by
  have := bounds_u64 h
  exact ⟨n.toNat, by omega, by unfold IsU64; omega⟩
theorem fd_i64 {n : Int} (h : (Lit.int .i64 n).wf = true) : IsI64 n := by
  have := bounds_i64 h
  unfold IsI64
  omega
theorem open_u8s_cell {fuel : Nat} {u : Value} {x : DataW H × List MemPlace} (h : DataW.trod enc Tryd.prog w 0 (fun _ => true) true fuel 30 [u] = some x) (hs : Sized Tryd.prog 30 x.1) :
    ∃ l : List UInt8, l.length ≤ 140737488355328 ∧ ∀ (η : Names) (X : Nat → Nat → Prop), (∀ b i, X b i) → Rep Tryd.prog w η X (.sl .no (l.map bD)) u := by
  have elem : ∀ (fuel : Nat) (cs : List Value) (x : DataW H × List MemPlace) (b o : Nat), b < w.heap.size → DataW.trod enc Tryd.prog w 0 (fun _ => true) true fuel 5 cs = some x → Sized Tryd.prog 5 x.1 → cs.length = 1 → (∀ j u, cs[j]? = some u → w.cell? ⟨b, o + j, none⟩ = some u) → ∃ n, IsU8 w b o n := by
    intro fuel cs x b o _ h _ hlen hcell
    obtain ⟨n, rfl, _, hw⟩ := DataW.trod_int Tryd.underlying5 h
    have hb := bounds_u8 hw
    refine ⟨UInt8.ofNat n.toNat, ?_⟩
    have e : (((UInt8.ofNat n.toNat).toNat : Nat) : Int) = n := by
      rw [UInt8.toNat_ofNat_of_lt' (by show n.toNat < 256; omega)]; omega
    show _ = some (Value.int .u8 _)
    rw [e]
    exact hcell 0 _ rfl
  obtain ⟨A, c, l, hu, hc, hr, hb⟩ := open_rows_trod (P := Tryd.prog) (size := 1) (bytes := 1) Tryd.underlying30 (by kernel_rfl) (by omega) (by kernel_rfl) (by omega) (IsU8 w) elem h hs
  injection hu with hu _
  subst hu
  refine ⟨l, by omega, fun η X hX => ?_⟩
  simp only [Rep]
  refine ⟨A, c, by rw [List.length_map], by rw [List.length_map]; exact hc, by rw [List.length_map]; omega, trivial, fun h0 => ?_⟩
  rw [List.length_map] at h0
  obtain ⟨b, o, e, hbl, hf⟩ := hr h0
  refine ⟨b, o, 1, e, by omega, RepE.mk fun i d hd => ?_⟩
  rw [List.getElem?_map] at hd
  cases hi : l[i]? with
  | none => rw [hi] at hd; cases hd
  | some a =>
    rw [hi] at hd
    injection hd with hd
    subst hd
    exact ⟨by simp only [bD, RepA], fun _ => ⟨rfl, hX _ _, .int .u8 (a.toNat : Int), hf i a hi, rfl, by simp only [bD, Rep]⟩⟩
def IsFd (w : World) (f : DFd) (cs : List Value) : Prop := FdOk f ∧ ∀ (η : Names) (X : Nat → Nat → Prop), (∀ b i, X b i) → Rep Tryd.prog w η X (encFd f) (.agg cs.toArray)
set_option maxRecDepth 20000 in
theorem open_fd_trod {fuel : Nat} {cs : List Value} {x : DataW H × List MemPlace} (h : DataW.trod enc Tryd.prog w 0 (fun _ => true) true fuel 45 cs = some x) (hs : Sized Tryd.prog 45 x.1) : ∃ o, IsFd w o cs := by
  obtain ⟨y0, y1, y2, y3, m, hx, hl, g0, g1, g2, g3⟩ := trod_struct4 Tryd.underlying45 h
  have k0 : Tryd.prog.cellsOf 3 = 1 := by kernel_rfl
  have k1 : Tryd.prog.cellsOf 22 = 1 := by kernel_rfl
  have k2 : Tryd.prog.cellsOf 30 = 1 := by kernel_rfl
  have k4 : Tryd.prog.cellsOf 45 = 4 := by kernel_rfl
  rw [k4] at hl
  rw [hx] at hs
  match cs, hl with
  | [x0, x1, x2, x3], _ =>
    simp only [k0, k1, k2] at g0 g1 g2 g3
    obtain ⟨q0, e0, _, w0⟩ := DataW.trod_int Tryd.underlying3 g0
    obtain ⟨q1, e1, _, w1⟩ := DataW.trod_int Tryd.underlying22 g1
    obtain ⟨q3, e3, _, w3⟩ := DataW.trod_int Tryd.underlying3 g3
    simp at e0 e1 e3
    simp only [List.drop_succ_cons, List.drop_zero, List.take_succ_cons, List.take_zero] at g2
    obtain ⟨l, hl1, hl2⟩ := open_u8s_cell g2 (sized_each Tryd.underlying45 hs (j := 2) rfl rfl)
    obtain ⟨q1, rfl, u1⟩ := fd_u64 w1
    refine ⟨⟨q0, q1, l, q3⟩, ⟨fd_i64 w0, u1, hl1, fd_i64 w3⟩, fun η X hX => ?_⟩
    simp only [encFd, Rep]
    refine ⟨_, rfl, ?_, fun u hu => ?_⟩
    · simp only [cellsFd, RepL]
      refine ⟨x0, _, rfl, by simp only [Rep]; rw [e0], x1, _, rfl, by simp only [Rep]; rw [e1], x2, _, rfl, hl2 η X hX, x3, _, rfl, by simp only [Rep]; rw [e3], rfl⟩
    · simp only [List.mem_cons, List.not_mem_nil, or_false] at hu
      rcases hu with rfl | rfl | rfl | rfl
      · rw [e0]; rfl
      · rw [e1]; rfl
      · have := hl2 η X hX
        simp only [Rep] at this
        obtain ⟨A, c, rfl, _⟩ := this
        rfl
      · rw [e3]; rfl
set_option maxRecDepth 20000 in
theorem open_fds {v : Value} {d : DataW H} {p : List MemPlace} {W : World} {base : Nat} (h : DataW.Trod enc Tryd.prog w 0 (fun _ => true) true 38 v d p) (hs : Sized Tryd.prog 38 d) (hk : Value.okWide Tryd.prog W .any base 38 v) :
    ∃ l : List DFd, (∀ o ∈ l, FdOk o) ∧ l.length ≤ 140737488351232 ∧ ∀ (η : Names) (X : Nat → Nat → Prop), (∀ b i, X b i) → Rep Tryd.prog w η X (.sl .no (l.map encFd)) v := by
  obtain ⟨l, h1, h2, h3⟩ := open_structs (P := Tryd.prog) encFd (size := 4) (bytes := 48) Tryd.underlying38 (by kernel_rfl) (by omega) (by kernel_rfl) (by omega) (fun o cs => IsFd w o cs) (fun fuel cs x hx hsx _ => open_fd_trod hx hsx) width_fd (fun _ => rfl) (fun o cs hq η X hX => hq.2 η X hX) h hs hk
  exact ⟨l, fun a ha => by obtain ⟨cs, hq⟩ := h1 a ha; exact hq.1, h2, h3⟩
end
end Go.Proofs.YtbcabejdchkpmaaDoor
