/- Texts of a proof, part 6. Conditions: none. -/
import Derived.Test.YtbcabejdchkpmaaDoorE5
import Derived.Laws.CopyRow
import Derived.Laws.Externs
set_option linter.unusedVariables false
set_option linter.unusedSimpArgs false
namespace Go.Proofs.YtbcabejdchkpmaaDoor
open Go.RowKit
section
variable {P : Program} {t : TypeId} {x : Operand}
theorem bin_nil_eql (c : Value) : dbin Tryd.prog .eql 35 x (.const c) (.v .nilIface) (.v .nilIface) = some (True, .v (.bool true)) := by cases x <;> kernel_rfl
theorem bin_nil_neq (c : Value) : dbin Tryd.prog .neq 35 x (.const c) (.v .nilIface) (.v .nilIface) = some (True, .v (.bool false)) := by cases x <;> kernel_rfl
end
attribute [go_sem] bin_nil_eql bin_nil_neq
def RAt (k : Nat) (l : List UInt8) (i : Nat) (T : St) : Prop := ∃ own, T.ob k = some (.box 64 [.sl own (l.map bD), .v (.int .i64 (i : Int)), .v .nilIface])
theorem RAt.keep {k : Nat} {l : List UInt8} {i : Nat} {S T : St} (h : RAt k l i S) (hb : ∀ j o, S.ob j = some o → T.ob j = some o) : RAt k l i T := by
  obtain ⟨own, h⟩ := h
  exact ⟨own, hb _ _ h⟩
structure RFr (k : Nat) (S T : St) : Prop where
  next : S.next ≤ T.next
  ob : ∀ j o, j ≠ k → S.ob j = some o → T.ob j = some o
theorem RFr.refl (k : Nat) (S : St) : RFr k S S := ⟨Nat.le_refl _, fun _ _ _ h => h⟩
theorem RFr.trans {k : Nat} {A B C : St} (h : RFr k A B) (g : RFr k B C) : RFr k A C := ⟨Nat.le_trans h.next g.next, fun j o hj e => g.ob j o hj (h.ob j o hj e)⟩
theorem RFr.box {k : Nat} {S T : St} (h : RFr k S T) (j : Nat) (t : TypeId) (cs : List D) (hj : j ≠ k) (e : S.ob j = some (.box t cs)) : T.ob j = some (.box t cs) := h.ob j _ hj e
theorem RFr.add {k : Nat} {S T : St} (h : RFr k S T) (hT : T.WF) (o : Ob) : RFr k S (T.add o) := h.trans ⟨Nat.le_succ _, fun j o' _ e => add_keep hT o j o' e⟩
theorem wd_c (l : List UInt8) : ∀ d ∈ l.map bD, d.cells.length = 1 := by
  intro d hd
  obtain ⟨b, _, rfl⟩ := List.mem_map.1 hd
  rfl
theorem take_bD (l : List UInt8) : List.take l.length (l.map bD) = l.map bD := List.take_of_length_le (by simp)
set_option maxRecDepth 200000 in
set_option maxHeartbeats 8000000 in
theorem field_r {S : St} {k : Nat} {l : List UInt8} {i s : Nat} (g : FuncId) (fs cs : List D) (C : St → Prop) (hk : k < S.next) (hr : RAt k l i S) (hi : i ≤ l.length) (hl : l.length ≤ 1099511627776) (hs : i + s ≤ l.length)
    (hC : ∀ T, C T → S.next ≤ T.next ∧ T.ob k = S.ob k)
    (h : DCalls Tryd.prog g (fs ++ [.sl .no ((l.drop i).map bD)] ++ cs) S fun d T => d = .tup [.v (.int .i64 (s : Int)), .v (.int .i64 0)] ∧ C T) :
    DCalls Tryd.prog 33 [.loc k 0, .fn (.func g) fs cs] S fun d T' => d = undefD ∧ ∃ T own, C T ∧ k < T.next ∧ T' = T.set k (.box 64 [.sl own (l.map bD), .v (.int .i64 ((i + s : Nat) : Int)), .v .nilIface]) := by
  obtain ⟨own, hr⟩ := hr
  refine dcalls_inline mixed Tryd.func33 rfl (fun _ _ => by kernel_rfl) (rs := []) rfl (by kernel_rfl) (fun hS => ?_)
  (simp (disch := first | decide | omega | (simp only [nx]; first | done | omega)) only [go_sem, hr]; (repeat with_reducible refine aI ?_))
  have hib : (i : Int) ≤ (l.length : Int) := by omega
  refine ddraw_any (fun S' => S'.ob k = some (.box 64 [.sl own (l.map bD), .v (.int .i64 (i : Int)), .v .nilIface])) 16 (by (first | (simp (disch := first | decide | omega | (simp only [nx]; first | done | omega)) only [go_sem, hr]; first | done | rfl) | rfl)) (by kernel_rfl) ?_
  (refine s_take 0 rfl (by kernel_rfl) (by kernel_rfl) (v := ?v1) (fun S' hz => dquietR_of ?h1) <| s_take 1 rfl (by kernel_rfl) (by kernel_rfl) (v := ?v2) (fun S' hz => dquietR_of ?h2) <| s_take 2 rfl (by kernel_rfl) (by kernel_rfl) (v := ?v3) (fun S' hz => dquietR_of ?h3) <| s_take 3 rfl (by kernel_rfl) (by kernel_rfl) (v := ?v4) (fun S' hz => dquietR_of ?h4) <| s_take 4 rfl (by kernel_rfl) (by kernel_rfl) (v := ?v5) (fun S' hz => dquietR_of ?h5) <| s_take 5 rfl (by kernel_rfl) (by kernel_rfl) (v := ?v6) (fun S' hz => dquietR_of ?h6) <| s_take 6 rfl (by kernel_rfl) (by kernel_rfl) (v := ?v7) (fun S' hz => dquietR_of ?h7) <| s_take 7 rfl (by kernel_rfl) (by kernel_rfl) (v := ?v8) (fun S' hz => dquietR_of ?h8) <| s_take 8 rfl (by kernel_rfl) (by kernel_rfl) (v := ?v9) (fun S' hz => dquietR_of ?h9) <| ?k9; (case h1 | h2 | h3 | h4 | h5 | h6 | h7 | h8 | h9 => ((simp (disch := first | decide | omega | (simp only [nx]; first | done | omega)) only [go_sem, hr, hz]; (repeat with_reducible refine aI ?_)); first | done | exact rfl | omega)))
  refine s_take 9 rfl (by kernel_rfl) (by kernel_rfl) (v := .sl .no ((l.drop i).map bD)) (fun S' hz => dquietR_of (by simp (disch := first | decide | omega | (simp only [nx]; first | done | omega)) only [go_sem, hz]; exact ⟨⟨hib, .inr (wd_c l)⟩, by first | rw [take_bD, List.map_drop] | rw [List.map_drop]⟩)) ?_
  (refine s_split [10] (by kernel_rfl) (by simp) ?_; intro j_ hj_; obtain rfl : j_ = 10 := (by simpa using hj_); clear hj_; refine s_op rfl ?_; (simp (disch := first | decide | omega | (simp only [nx]; first | done | omega)) only [go_sem, hr]; (repeat with_reducible refine aI ?_)))
  refine h.mono ?_
  rintro _ T ⟨rfl, hc⟩
  have hT := (hC T hc).2.trans hr
  refine ⟨hT, ?_⟩
  (refine s_take 11 rfl (by kernel_rfl) (by kernel_rfl) (v := ?v10) (fun S' hz => dquietR_of ?h10) <| s_take 12 rfl (by kernel_rfl) (by kernel_rfl) (v := ?v11) (fun S' hz => dquietR_of ?h11) <| s_take 13 rfl (by kernel_rfl) (by kernel_rfl) (v := ?v12) (fun S' hz => dquietR_of ?h12) <| s_take 14 rfl (by kernel_rfl) (by kernel_rfl) (v := ?v13) (fun S' hz => dquietR_of ?h13) <| s_take 15 rfl (by kernel_rfl) (by kernel_rfl) (v := ?v14) (fun S' hz => dquietR_of ?h14) <| ?k14; (case h10 | h11 | h12 | h13 | h14 => ((simp (disch := first | decide | omega | (simp only [nx]; first | done | omega)) only [go_sem, hT, hz]; (repeat with_reducible refine aI ?_)); first | done | exact rfl | omega)))
  have b00 : ((0 : Int) != 0) = false := rfl
  have wi : IntKind.i64.wrap ((i : Int) + (s : Int)) = ((i + s : Nat) : Int) := by rw [IntWalk.i64_in _ ⟨by omega, by omega⟩]; push_cast; rfl
  (refine s_done (by kernel_rfl) ?_; (simp (disch := first | decide | omega | (simp only [nx]; first | done | omega)) only [go_sem, hT, b00, wi]; (repeat with_reducible refine aI ?_)))
  exact ⟨T, own, hc, by have := (hC T hc).1; omega, rfl⟩
theorem set_ne {S : St} {a b : Nat} {o : Ob} (h : a ≠ b) : (S.set b o).ob a = S.ob a := by simp [St.set, h]
theorem set_eq {S : St} {b : Nat} {o : Ob} : (S.set b o).ob b = some o := by simp [St.set]
theorem add_ne {S : St} {a : Nat} {o : Ob} (h : a < S.next) : (S.add o).ob a = S.ob a := by simp [St.add, show a ≠ S.next by omega]
theorem add_eq {S : St} {o : Ob} : (S.add o).ob S.next = some o := by simp [St.add]
theorem numP_le {l : List UInt8} {n s : Nat} (h : numP l = some (n, s)) : s ≤ l.length ∧ IsU64 n := by
  have := numGo_bounds l 0 0 (by omega) (by simp) (by omega) n s h
  exact ⟨by omega, this.1⟩
set_option maxRecDepth 200000 in
set_option maxHeartbeats 8000000 in
theorem num1_r {S : St} {a b : Nat} {l : List UInt8} {n s mx : Nat} {cs : List D} (hab : a ≠ b) (ha : S.ob a = some (.box 22 [.v (.int .u64 (mx : Int))])) (hb : S.ob b = some (.box 22 cs)) (hcs : cs.length = 1) (hl : l.length ≤ 1099511627776) (hN : numP l = some (n, s)) (hmx : n ≤ mx) :
    DCalls Tryd.prog 35 [.sl .no (l.map bD), .loc a 0, .loc b 0] S fun d T => d = .tup [.v (.int .i64 (s : Int)), .v (.int .i64 0)] ∧ T = S.set b (.box 22 [.v (.int .u64 (n : Int))]) := by
  refine dcalls_inline mixed Tryd.func35 rfl (fun _ _ => by kernel_rfl) (rs := [.tmp 4, .tmp 5]) rfl (by kernel_rfl) (fun hS => ?_)
  have b00 : ((0 : Int) != 0) = false := rfl
  have b01 : ((0 : Int) == 0) = true := rfl
  have b1 : decide ((mx : Int) < (n : Int)) = false := by simp; omega
  obtain ⟨c0, rfl⟩ : ∃ c, cs = [c] := by match cs, hcs with | [c], _ => exact ⟨c, rfl⟩
  (simp (disch := first | decide | omega | (simp only [nx]; first | done | omega)) only [go_sem, ha, hb]; (repeat with_reducible refine aI ?_))
  refine DCalls.of_pure (number_d .no l hl) ?_
  rw [hN]
  (simp (disch := first | decide | omega | (simp only [nx]; first | done | omega)) only [go_sem, ha, hb, b00, b01, b1, numD]; (repeat with_reducible refine aI ?_))
set_option maxRecDepth 200000 in
set_option maxHeartbeats 8000000 in
theorem number_r {S : St} {k : Nat} {l : List UInt8} {i n s mx : Nat} (hk : k < S.next) (hr : RAt k l i S) (hl : l.length ≤ 1099511627776) (hi : i ≤ l.length) (hN : numP (l.drop i) = some (n, s)) (hmx : n ≤ mx) :
    DCalls Tryd.prog 8 [.loc k 0, .v (.int .u64 (mx : Int))] S fun d T => d = .v (.int .u64 (n : Int)) ∧ RAt k l (i + s) T ∧ RFr k S T := by
  have hs := (numP_le hN).1
  rw [List.length_drop] at hs
  refine dcalls_inline mixed Tryd.func8 rfl (fun _ _ => by kernel_rfl) (rs := [.tmp 4]) rfl (by kernel_rfl) (fun hS => ?_)
  (simp (disch := first | decide | omega | (simp only [nx]; first | done | omega)) only [go_sem]; (repeat with_reducible refine aI ?_))
  refine (field_r _ [] _ (fun T => T = ((S.add (.box 22 [.v (.int .u64 (mx : Int))])).add (.box 22 [.v (.int .u64 0)])).set (S.next + 1) (.box 22 [.v (.int .u64 (n : Int))])) (by show k < S.next + 1 + 1; omega) (hr.keep fun j o e => by have := hS.lt e; rw [add_ne (by show j < S.next + 1; omega), add_ne this, e]) hi hl (s := s) (by omega) ?_ ?_).mono ?_
  · rintro T rfl
    exact ⟨Nat.le_refl _, set_ne (by omega)⟩
  · exact num1_r (by omega) (by rw [add_ne (by show S.next < S.next + 1; omega), add_eq]) (add_eq (S := S.add _)) rfl (by rw [List.length_drop]; omega) hN hmx
  · rintro _ T' ⟨rfl, T, own, rfl, hk', rfl⟩
    (simp (disch := first | decide | omega | (simp only [nx]; first | done | omega)) only [go_sem, hk']; (repeat with_reducible refine aI ?_))
    refine ⟨⟨own, set_eq⟩, ⟨by show S.next ≤ S.next + 1 + 1; omega, fun j o hj e => ?_⟩⟩
    have := hS.lt e
    rw [set_ne hj, set_ne (by omega), add_ne (by show j < S.next + 1; omega), add_ne this, e]
def bytP (l : List UInt8) (mx : Nat) : Option (List UInt8 × Nat) := match numP l with
  | some (n, s) => if n ≤ mx ∧ s + n ≤ l.length then some ((l.drop s).take n, s + n) else none
  | none => none
theorem bytP_numB (xs rest : List UInt8) (mx : Nat) (h : xs.length ≤ mx) (hu : xs.length < 18446744073709551616) : bytP (numB xs.length ++ xs ++ rest) mx = some (xs, (numB xs.length).length + xs.length) := by
  unfold bytP
  rw [List.append_assoc, numP_numB _ _ hu]
  simp only
  rw [if_pos ⟨h, by simp⟩]
  simp
theorem bytP_some {l xs : List UInt8} {mx s : Nat} (h : bytP l mx = some (xs, s)) : ∃ n q, numP l = some (n, q) ∧ n ≤ mx ∧ q + n ≤ l.length ∧ xs = (l.drop q).take n ∧ s = q + n := by
  unfold bytP at h
  split at h
  · rename_i n q e
    split at h
    · rename_i h1
      injection h with h
      injection h with h2 h3
      exact ⟨n, q, e, h1.1, h1.2, h2.symm, h3.symm⟩
    · cases h
  · cases h
set_option maxRecDepth 200000 in
set_option maxHeartbeats 8000000 in
theorem byt1_r {S : St} {a b : Nat} {l xs : List UInt8} {s mx : Nat} (hab : a ≠ b) (hbn : b < S.next) (ha : S.ob a = some (.box 3 [.v (.int .i64 (mx : Int))])) (hb : S.ob b = some (.box 30 [.sl .full []])) (hl : l.length ≤ 1099511627776) (hm : mx ≤ 1099511627776) (hN : bytP l mx = some (xs, s)) :
    DCalls Tryd.prog 38 [.sl .no (l.map bD), .loc a 0, .loc b 0] S fun d T => d = .tup [.v (.int .i64 (s : Int)), .v (.int .i64 0)] ∧ T = (S.grow .full 5 xs.length).set b (.box 30 [.sl (.row S.next) (xs.map bD)]) := by
  obtain ⟨n, q, hN', hmx, hq, rfl, rfl⟩ := bytP_some hN
  clear hN
  have hN := hN'
  have mx0 : (if (0 : Int) < (mx : Int) then (mx : Int) else 0) = (mx : Int) := by split <;> omega
  have hn := (numP_le hN).2
  refine dcalls_inline mixed Tryd.func38 rfl (fun _ _ => by kernel_rfl) (rs := [.tmp 4, .tmp 5]) rfl (by kernel_rfl) (fun hS => ?_)
  have b00 : ((0 : Int) != 0) = false := rfl
  have wm : IntKind.u64.wrap (mx : Int) = (mx : Int) := wrap_u64 mx (by unfold IsU64; omega)
  have wl : IntKind.i64.wrap ((l.length : Int) - (q : Int)) = ((l.length - q : Nat) : Int) := by rw [IntWalk.i64_in _ ⟨by omega, by omega⟩]; omega
  have wu : IntKind.u64.wrap ((l.length - q : Nat) : Int) = ((l.length - q : Nat) : Int) := wrap_u64 _ (by unfold IsU64; omega)
  have wn : IntKind.i64.wrap (n : Int) = (n : Int) := IntWalk.i64_in _ ⟨by omega, by omega⟩
  have wq : IntKind.i64.wrap ((q : Int) + (n : Int)) = ((q + n : Nat) : Int) := by rw [IntWalk.i64_in _ ⟨by omega, by omega⟩]; push_cast; rfl
  have b1 : decide ((mx : Int) < (n : Int)) = false := by simp; omega
  have b2 : decide (((l.length - q : Nat) : Int) < (n : Int)) = false := by simp; omega
  (simp (disch := first | decide | omega | (simp only [nx]; first | done | omega)) only [go_sem, ha, hb]; (repeat with_reducible refine aI ?_))
  refine DCalls.of_pure (number_d .no l hl) ?_
  rw [hN]
  (simp (disch := first | decide | omega | (simp only [nx]; first | done | omega)) only [go_sem, ha, hb, b00, numD, mx0, wm, wl, wu, wn, wq, b1, b2]; (repeat with_reducible refine aI ?_))
  have hsl : List.drop q (List.take (q + n) (l.map bD)) = ((l.drop q).take n).map bD := by rw [← List.map_take, ← List.map_drop, List.drop_take, Nat.add_sub_cancel_left]
  have hle : ((q + n : Nat) : Int) ≤ (l.length : Int) := by omega
  have hle0 : (q : Int) ≤ ((q + n : Nat) : Int) := by omega
  have hwd := eq_true (wd_c l)
  refine ddraw_mk 8 (by kernel_rfl) ?_
  simp (disch := first | decide | omega | (simp only [nx]; first | done | omega)) only [go_sem, ha, hb, b00, wn, wq, hsl, hwd, hle, hle0]
  refine dapp_bytes (bs := []) (.inl ⟨rfl, rfl⟩) (by rw [List.length_take, List.length_drop]; simp; omega) ?_
  have hbS : (b = S.next) = False := by simp; omega
  (simp (disch := first | decide | omega | (simp only [nx]; first | done | omega)) only [go_sem, ha, hb, wn, wq, hbS]; (repeat with_reducible refine aI ?_))
set_option maxRecDepth 200000 in
set_option maxHeartbeats 8000000 in
theorem bytes_r {S : St} {k : Nat} {l xs : List UInt8} {i s mx : Nat} (hk : k < S.next) (hr : RAt k l i S) (hl : l.length ≤ 1099511627776) (hi : i ≤ l.length) (hm : mx ≤ 1099511627776) (hN : bytP (l.drop i) mx = some (xs, s)) :
    DCalls Tryd.prog 11 [.loc k 0, .v (.int .i64 (mx : Int))] S fun d T => (∃ o, d = .sl o (xs.map bD)) ∧ RAt k l (i + s) T ∧ RFr k S T := by
  obtain ⟨n, q, hN', _, hq, _, hsq⟩ := bytP_some hN
  rw [List.length_drop] at hq
  refine dcalls_inline mixed Tryd.func11 rfl (fun _ _ => by kernel_rfl) (rs := [.tmp 4]) rfl (by kernel_rfl) (fun hS => ?_)
  (simp (disch := first | decide | omega | (simp only [nx]; first | done | omega)) only [go_sem]; (repeat with_reducible refine aI ?_))
  refine (field_r _ [] _ (fun T => T = (((S.add (.box 3 [.v (.int .i64 (mx : Int))])).add (.box 30 [.sl .full []])).grow .full 5 xs.length).set (S.next + 1) (.box 30 [.sl (.row (S.next + 1 + 1)) (xs.map bD)])) (by show k < S.next + 1 + 1; omega) (hr.keep fun j o e => by have := hS.lt e; rw [add_ne (by show j < S.next + 1; omega), add_ne this, e]) hi hl (s := s) (by omega) ?_ ?_).mono ?_
  · rintro T rfl
    refine ⟨by show S.next + 1 + 1 ≤ S.next + 1 + 1 + 1; omega, ?_⟩
    rw [set_ne (by omega)]
    simp only [St.grow, St.leave]
    exact add_ne (by show k < S.next + 1 + 1; omega)
  · exact byt1_r (by omega) (by show S.next + 1 < S.next + 1 + 1; omega) (by rw [add_ne (by show S.next < S.next + 1; omega), add_eq]) (add_eq (S := S.add _)) (by rw [List.length_drop]; omega) hm hN
  · rintro _ T' ⟨rfl, T, own, rfl, hk', rfl⟩
    (simp (disch := first | decide | omega | (simp only [nx]; first | done | omega)) only [go_sem, hk']; (repeat with_reducible refine aI ?_))
    refine ⟨⟨_, rfl⟩, ⟨own, set_eq⟩, ⟨by show S.next ≤ S.next + 1 + 1 + 1; omega, fun j o hj e => ?_⟩⟩
    have := hS.lt e
    rw [set_ne hj, set_ne (by omega)]
    simp only [St.grow, St.leave]
    rw [add_ne (by show j < S.next + 1 + 1; omega), add_ne (by show j < S.next + 1; omega), add_ne this, e]
set_option maxRecDepth 200000 in
set_option maxHeartbeats 8000000 in
theorem text_r {S : St} {k : Nat} {l xs : List UInt8} {i s mx : Nat} (hk : k < S.next) (hr : RAt k l i S) (hl : l.length ≤ 1099511627776) (hi : i ≤ l.length) (hm : mx ≤ 1099511627776) (hN : bytP (l.drop i) mx = some (xs, s)) :
    DCalls Tryd.prog 12 [.loc k 0, .v (.int .i64 (mx : Int))] S fun d T => d = .v (.string ⟨xs.toArray⟩) ∧ RAt k l (i + s) T ∧ RFr k S T := by
  refine dcalls_inline mixed Tryd.func12 rfl (fun _ _ => by kernel_rfl) (rs := [.tmp 4]) rfl (by kernel_rfl) (fun hS => ?_)
  (simp (disch := first | decide | omega | (simp only [nx]; first | done | omega)) only [go_sem]; (repeat with_reducible refine aI ?_))
  refine (bytes_r hk hr hl hi hm hN).mono ?_
  rintro _ T ⟨⟨o, rfl⟩, h1, h2⟩
  (simp (disch := first | decide | omega | (simp only [nx]; first | done | omega)) only [go_sem]; (repeat with_reducible refine aI ?_))
  exact h2
set_option maxRecDepth 200000 in
set_option maxHeartbeats 8000000 in
theorem err_r {S : St} {k : Nat} {l : List UInt8} {i : Nat} (hr : RAt k l i S) : DCalls Tryd.prog 16 [.loc k 0] S fun d T => d = .v .nilIface ∧ T = S := by
  obtain ⟨own, hr⟩ := hr
  refine dcalls_inline mixed Tryd.func16 rfl (fun _ _ => by kernel_rfl) (rs := [.tmp 2]) rfl (by kernel_rfl) (fun hS => ?_)
  (simp (disch := first | decide | omega | (simp only [nx]; first | done | omega)) only [go_sem, hr]; (repeat with_reducible refine aI ?_))
set_option maxRecDepth 200000 in
set_option maxHeartbeats 8000000 in
theorem end_r {S : St} {k : Nat} {l : List UInt8} (hr : RAt k l l.length S) : DCalls Tryd.prog 17 [.loc k 0] S fun d T => d = .v .nilIface ∧ T = S := by
  have hr0 := hr
  obtain ⟨own, hr⟩ := hr
  refine dcalls_inline mixed Tryd.func17 rfl (fun _ _ => by kernel_rfl) (rs := [.tmp 2]) rfl (by kernel_rfl) (fun hS => ?_)
  have b1 : decide ((l.length : Int) < (l.length : Int)) = false := by simp
  (simp (disch := first | decide | omega | (simp only [nx]; first | done | omega)) only [go_sem, hr, b1]; (repeat with_reducible refine aI ?_))
  refine ddraw_mk 14 (by kernel_rfl) ?_
  (simp (disch := first | decide | omega | (simp only [nx]; first | done | omega)) only [go_sem, hr, b1]; (repeat with_reducible refine aI ?_))
  refine (err_r hr0).mono ?_
  rintro _ T ⟨rfl, rfl⟩
  (simp (disch := first | decide | omega | (simp only [nx]; first | done | omega)) only [go_sem]; (repeat with_reducible refine aI ?_))
set_option maxRecDepth 200000 in
set_option maxHeartbeats 8000000 in
theorem new_r {S : St} {l : List UInt8} {o : Own} (hl : l.length ≤ 1099511627776) : DCalls Tryd.prog 20 [.sl o (l.map bD)] S fun d T => ∃ k, d = .loc k 0 ∧ S.next ≤ k ∧ k < T.next ∧ RAt k l 0 T ∧ ∀ j o, S.ob j = some o → T.ob j = some o := by
  refine dcalls_inline mixed Tryd.func20 rfl (fun _ _ => by kernel_rfl) (rs := [.tmp 2]) rfl (by kernel_rfl) (fun hS => ?_)
  (simp (disch := first | decide | omega | (simp only [nx]; first | done | omega)) only [go_sem]; (repeat with_reducible refine aI ?_))
  refine dapp_bytes (bs := []) (.inl ⟨rfl, rfl⟩) (by simpa using hl) ?_
  (simp (disch := first | decide | omega | (simp only [nx]; first | done | omega)) only [go_sem]; (repeat with_reducible refine aI ?_))
  refine ⟨S.next + 1, rfl, by omega, by omega, ⟨.row S.next, add_eq (S := S.grow .full 5 l.length)⟩, fun j o e => ?_⟩
  have := hS.lt e
  rw [add_ne (by show j < S.next + 1; omega)]
  simp only [St.grow, St.leave]
  rw [add_ne this, e]
end Go.Proofs.YtbcabejdchkpmaaDoor

namespace Go.Proofs.YtbcabejdchkpmaaDoor
open Go.RowKit
section
set_option maxRecDepth 200000
set_option maxHeartbeats 8000000
theorem byte1_r {S : St} {b : Nat} {l : List UInt8} {c : UInt8} {cs : List D} (hb : S.ob b = some (.box 5 cs)) (hcs : cs.length = 1) :
    DCalls Tryd.prog 34 [.sl .no ((c :: l).map bD), .loc b 0] S fun d T => d = .tup [.v (.int .i64 ((1 : Nat) : Int)), .v (.int .i64 0)] ∧ T = S.set b (.box 5 [bD c]) := by
  refine dcalls_inline mixed Tryd.func34 rfl (fun _ _ => by kernel_rfl) (rs := [.tmp 3, .tmp 4]) rfl (by kernel_rfl) (fun hS => ?_)
  obtain ⟨c0, rfl⟩ : ∃ c, cs = [c] := by match cs, hcs with | [c], _ => exact ⟨c, rfl⟩
  have b1 : (((l.length + 1 : Nat) : Int) == 0) = false := by simp; omega
  (simp (disch := first | decide | omega | (simp only [nx]; first | done | omega)) only [go_sem, hb, List.map_cons, List.length_cons, b1, bD]; (repeat with_reducible refine aI ?_))
  rfl
theorem byte_r {S : St} {k : Nat} {l rest : List UInt8} {i : Nat} {c : UInt8} (hk : k < S.next) (hr : RAt k l i S) (hl : l.length ≤ 1099511627776) (hi : i ≤ l.length) (hd : l.drop i = c :: rest) :
    DCalls Tryd.prog 7 [.loc k 0] S fun d T => d = bD c ∧ RAt k l (i + 1) T ∧ RFr k S T := by
  have hs : i + 1 ≤ l.length := by
    have := congrArg List.length hd
    rw [List.length_drop, List.length_cons] at this; omega
  refine dcalls_inline mixed Tryd.func7 rfl (fun _ _ => by kernel_rfl) (rs := [.tmp 2]) rfl (by kernel_rfl) (fun hS => ?_)
  (simp (disch := first | decide | omega | (simp only [nx]; first | done | omega)) only [go_sem]; (repeat with_reducible refine aI ?_))
  refine (field_r _ [] _ (fun T => T = (S.add (.box 5 [.v (.int .u8 0)])).set S.next (.box 5 [bD c])) (by show k < S.next + 1; omega) (hr.keep fun j o e => by have := hS.lt e; rw [add_ne this, e]) hi hl (s := 1) hs ?_ ?_).mono ?_
  · rintro T rfl
    exact ⟨Nat.le_refl _, set_ne (by omega)⟩
  · rw [hd]
    exact byte1_r add_eq rfl
  · rintro _ T' ⟨rfl, T, own, rfl, hk', rfl⟩
    (simp (disch := first | decide | omega | (simp only [nx]; first | done | omega)) only [go_sem, hk']; (repeat with_reducible refine aI ?_))
    refine ⟨⟨own, set_eq⟩, ⟨by show S.next ≤ S.next + 1; omega, fun j o hj e => ?_⟩⟩
    have := hS.lt e
    rw [set_ne hj, set_ne (by omega), add_ne this, e]
end
end Go.Proofs.YtbcabejdchkpmaaDoor

namespace Go.Proofs.YtbcabejdchkpmaaDoor
open Go.RowKit
theorem gdS0 (s : DSch) : (encS s).cells.getD 0 undefD = .v (.int .i64 s.kind) := by rw [encS_eq]; exact Eq.trans (Eq.refl _) (Eq.refl _)
theorem gdS1 (s : DSch) : (encS s).cells.getD 1 undefD = .sl .no (s.words.map strD) := by rw [encS_eq]; exact Eq.trans (Eq.refl _) (Eq.refl _)
theorem gdS2 (s : DSch) : (encS s).cells.getD 2 undefD = .sl .no (s.parts.map encS) := by rw [encS_eq]; exact Eq.trans (Eq.refl _) (Eq.refl _)
attribute [go_sem] gdS0 gdS1 gdS2
theorem drop_encS (s : DSch) : (encS s).cells.drop 3 = [] := List.drop_of_length_le (by rw [cells_encS]; omega)
theorem take_map_len {α β : Type} (f : α → β) (l : List α) : (l.map f).take l.length = l.map f := List.take_of_length_le (by simp)
attribute [go_sem] drop_encS take_map_len
end Go.Proofs.YtbcabejdchkpmaaDoor

namespace Go.Proofs.YtbcabejdchkpmaaDoor
open Go.RowKit
theorem bin_rem {P : Program} {t : TypeId} {x y : Operand} (k : IntKind) (a b : Int) (hb : b ≠ 0) : dbin P .rem t x y (.v (.int k a)) (.v (.int k b)) = some (True, .v (.int k (a.tmod b))) := by
  simp [dbin, eqGuard, binOp, Op.intDiv, pureRun_bind, pureRun_pure, hb]
end Go.Proofs.YtbcabejdchkpmaaDoor

namespace Go.Proofs.YtbcabejdchkpmaaDoor
open Go.RowKit
theorem name_d (s : Str) (hs : s.length ≤ maxLen) : DPure Tryd.prog 92 [.v (sv s)] (.v (.bool (nameB s))) :=
  dpure_of_gives (fun _ _ => by kernel_rfl) fun w η X vs hr => by
    simp only [RepL, Rep] at hr
    obtain ⟨x, xs, rfl, rfl, rfl⟩ := hr
    exact name_calls s w hs
end Go.Proofs.YtbcabejdchkpmaaDoor

namespace Go.Proofs.YtbcabejdchkpmaaDoor
open Go.RowKit

def SrcOk (S : St) (z : Nat) (d : D) (m : Nat) (news : List D) : Prop := match d with
  | .sl _ es => (∀ x ∈ es, x.width = z) ∧ m = es.length ∧ news = flat es
  | .win k off n _ => m = n ∧ (n = 0 ∧ news = [] ∨ ∃ t cs, S.ob k = some (.box t cs) ∧ off + n * z ≤ cs.length ∧ news = (cs.drop off).take (n * z))
  | _ => False
theorem srcOk_sl {S : St} {z : Nat} {o : Own} {es : List D} (h : ∀ x ∈ es, x.width = z) : SrcOk S z (.sl o es) es.length (flat es) := ⟨h, rfl, rfl⟩
structure SrcAt (w : World) (z : Nat) (v : Value) (m : Nat) (us : List Value) : Prop where
  sl : ∃ A c, v = .slice A m c ∧ m ≤ 140737488355328 ∧ ((A = none ∧ m = 0) ∨ ∃ a, A = some a ∧ ∀ (j : Nat) u, us[j]? = some u → w.cell? (a.add j) = some u)
  len : us.length = m * z
  one : ∀ u ∈ us, u.oneCell' = true
section
variable {P : Program} {base : Nat} {S : St} {η : Names} {w : World}
theorem SrcOk.length {z : Nat} {d : D} {m : Nat} {news : List D} (h : SrcOk S z d m news) : news.length = m * z := by
  cases d with
  | sl o es => obtain ⟨h1, rfl, rfl⟩ := h; exact dflat_length h1
  | win k off n c =>
    obtain ⟨rfl, ⟨h1, rfl⟩ | ⟨t, cs, _, h2, rfl⟩⟩ := h
    · rw [h1]; simp
    · rw [List.length_take, List.length_drop]; omega
  | _ => exact h.elim
theorem srcOk_at (hM : Mem P base S η w) {z : Nat} {d : D} {m : Nat} {news : List D} {v : Value} (hs : SrcOk S z d m news) (hr : Rep P w η (Fix P S η) d v) :
    ∃ us, SrcAt w z v m us ∧ RepL P w η (Fix P S η) news us := by
  cases d with
  | sl o es =>
    obtain ⟨h1, rfl, rfl⟩ := hs
    simp only [Rep] at hr
    obtain ⟨A, c, rfl, h2, h3, h4, h5⟩ := hr
    rcases Nat.eq_zero_or_pos es.length with h0 | h0
    · have : es = [] := List.eq_nil_of_length_eq_zero h0
      subst this
      refine ⟨[], ⟨⟨A, c, rfl, by simp, ?_⟩, by simp, fun u hu => by cases hu⟩, by simp [flat, RepL]⟩
      cases A with
      | none => exact .inl ⟨rfl, rfl⟩
      | some a => exact .inr ⟨a, rfl, fun j u hu => by simp at hu⟩
    · obtain ⟨b, o, z', rfl, hz', hr⟩ := h5 h0
      obtain ⟨k1, k2⟩ := RepE.flat hr
      obtain ⟨vs, g1, g2, g3, g4⟩ := k2.range
      exact ⟨vs, ⟨⟨_, c, rfl, h3, .inr ⟨_, rfl, fun j u hu => by rw [Addr.add_mid]; exact g2 j u hu⟩⟩, by rw [g1, dflat_length h1], g4⟩, g3⟩
  | win k off n c =>
    obtain ⟨rfl, h⟩ := hs
    obtain ⟨A, rfl, h2, h3, h4⟩ := hr.win_slice
    rcases h with ⟨rfl, rfl⟩ | ⟨t, cs, h5, h6, rfl⟩
    · refine ⟨[], ⟨⟨A, c, rfl, by simp, ?_⟩, by simp, fun u hu => by cases hu⟩, by simp [RepL]⟩
      cases A with
      | none => exact .inl ⟨rfl, rfl⟩
      | some a => exact .inr ⟨a, rfl, fun j u hu => by simp at hu⟩
    · obtain ⟨b, hb⟩ := hM.live k t cs h5
      rcases h4 with ⟨b', h4, rfl⟩ | ⟨h4, _⟩
      rotate_left
      · rw [hb] at h4; cases h4
      have : b' = b := by rw [hb] at h4; injection h4 with h4; injection h4 with h4; exact h4.symm
      subst this
      obtain ⟨vs, g1, g2, g3⟩ := hM.box k t cs b' h5 hb
      have hl := g2.length
      refine ⟨(vs.drop off).take (m * z), ⟨⟨_, c, rfl, h3, .inr ⟨_, rfl, fun j u hu => ?_⟩⟩, by rw [List.length_take, List.length_drop]; omega, fun u hu => g3 u (List.mem_of_mem_drop (List.mem_of_mem_take hu))⟩, (g2.drop off).take _⟩
      rw [Addr.add_mid]
      have : w.cell? ⟨b', off + j, none⟩ = vs.toArray[off + j]? := by simp [World.cell?, g1]
      rw [this]
      rw [List.getElem?_take] at hu
      split at hu
      · rw [List.getElem?_drop] at hu
        simpa using hu
      · cases hu
  | _ => exact hs.elim
theorem SrcAt.src {z : Nat} {v : Value} {m : Nat} {us : List Value} {tx : TypeId} (h : SrcAt w z v m us) (ht : (elT P tx).isSome = true) : Src P z tx v m us w := by
  obtain ⟨e', he'⟩ := Option.isSome_iff_exists.1 ht
  have hk := elT_spec he'
  obtain ⟨⟨A, c, rfl, _, ⟨rfl, rfl⟩ | ⟨a, rfl, ha⟩⟩, h2, h3⟩ := h
  · have : us = [] := List.eq_nil_of_length_eq_zero (by rw [h2]; simp)
    subst this
    exact Src.ofNil w hk c
  · exact Src.ofSlice w hk a m c us h2 ha h3
theorem win_live (hM : Mem P base S η w) {k off n c : Nat} {t : TypeId} {cs : List D} {v : Value} (hk : S.ob k = some (.box t cs)) (hr : Rep P w η (Fix P S η) (.win k off n c) v) :
    ∃ b vs, v = .slice (some ⟨b, off, none⟩) n c ∧ η k = some (some b) ∧ w.heap[b]? = some (.cells vs.toArray t (0, 0)) ∧ RepL P w η (Fix P S η) cs vs ∧ (∀ x ∈ vs, x.oneCell' = true) ∧ n ≤ c ∧ n ≤ 140737488355328 := by
  obtain ⟨A, rfl, h2, h3, h4⟩ := hr.win_slice
  obtain ⟨b, hb⟩ := hM.live k t cs hk
  rcases h4 with ⟨b', h4, rfl⟩ | ⟨h4, _⟩
  · have : b' = b := by rw [hb] at h4; injection h4 with h4; injection h4 with h4; exact h4.symm
    subst this
    obtain ⟨vs, g1, g2, g3⟩ := hM.box k t cs b' hk hb
    exact ⟨b', vs, rfl, h4, g1, g2, g3, h2, h3⟩
  · rw [hb] at h4; cases h4
theorem splice_len {cs ds : List D} {off : Nat} (h : off + ds.length ≤ cs.length) : (splice cs off ds).length = cs.length := by
  simp only [splice, List.length_append, List.length_take, List.length_drop]
  omega
theorem one_splice {vs us : List Value} {off : Nat} (h : ∀ x ∈ vs, x.oneCell' = true) (k : ∀ x ∈ us, x.oneCell' = true) : ∀ x ∈ vs.take off ++ us ++ vs.drop (off + us.length), x.oneCell' = true := fun u hu => by
  rcases List.mem_append.1 hu with hu | hu
  · rcases List.mem_append.1 hu with hu | hu
    · exact h u (List.mem_of_mem_take hu)
    · exact k u hu
  · exact h u (List.mem_of_mem_drop hu)
theorem run_append_room_at (w : World) (t tx ty e : TypeId) (i : TypeInfo) (ht : P.underlying t = some (.slice e)) (hi : P.info? e = some i) (b off sLen sCap : Nat) (bt : TypeId) (x : Value) (n : Nat) (news : List Value) (hs : Src P i.size tx x n news w)
    (cur : Array Value) (hg : w.heap[b]? = some (.cells cur bt (0, 0))) (hroom : sLen + n ≤ sCap) (hfit : off + sLen * i.size + news.length ≤ cur.size) :
    (Builtin.append_ #[t, tx] ty #[.slice (some ⟨b, off, none⟩) sLen sCap, x]).run P w = .ok (.slice (some ⟨b, off, none⟩) (sLen + n) sCap) (w.setRow b (cur.toList.take (off + sLen * i.size) ++ news ++ cur.toList.drop (off + sLen * i.size + news.length)).toArray) := by
  have hst := run_storeCells_at P b (off + sLen * i.size) bt news 0 cur w hg (by simpa using hfit) hs.one
  simp only [Nat.add_zero] at hst
  rcases hs.kind with ⟨e', hk⟩ | hk <;> simp [Builtin.append_, run_underlying ht, run_underlying hk, sizeOf, typeInfo, hi, hs.len, hroom, hs.cells, Addr.add_lit, hst]
def dappW (P : Program) (t tx ty : TypeId) (x y : D) (S : St) (K : D → St → Prop) : Prop := DRun P (fun vs => Builtin.append_ #[t, tx] ty vs.toArray) [x, y] S K
theorem dapp_atw {t tx ty : TypeId} {k off n c : Nat} {y : D} {K : D → St → Prop} : dapp P S t tx ty (.win k off n c) y K = dappW P t tx ty (.win k off n c) y S K := rfl
attribute [go_sem] dapp_atw
theorem dapp_nil {t tx ty e : TypeId} {own o2 : Own} {es es2 : List D} {K : D → St → Prop} (he : elT P t = some e) (h : dappW P t tx ty (.sl own es) (.sl o2 es2) S K) : dapp P S t tx ty (.sl own es) (.sl o2 es2) K := dapp_step he h
theorem dappend_in {t tx ty e : TypeId} (he : elT P t = some e) (hx : (elT P tx).isSome = true) (hi : (P.info? e).isSome = true) {k off n c m : Nat} {bt : TypeId} {cs news : List D} {y : D} {K : D → St → Prop} (hk : S.ob k = some (.box bt cs)) (hs : SrcOk S (szOf P e) y m news)
    (hroom : n + m ≤ c) (hb : n + m ≤ 140737488355328) (hfit : off + (n + m) * szOf P e ≤ cs.length) {cs' : List D} (hcs : splice cs (off + n * szOf P e) news = cs') (h : K (.win k off (n + m) c) (S.set k (.box bt cs'))) : dappW P t tx ty (.win k off n c) y S K := by
  subst hcs
  intro base η w vs hM hr
  simp only [RepL] at hr
  obtain ⟨x1, _, rfl, r1, x2, _, rfl, r2, rfl⟩ := hr
  obtain ⟨us, s1, s2⟩ := srcOk_at hM hs r2
  obtain ⟨b, bs, rfl, hbb, g1, g2, g3, g4, g5⟩ := win_live hM hk r1
  obtain ⟨i, hi⟩ := Option.isSome_iff_exists.1 hi
  have hsz : szOf P e = i.size := by simp [szOf, hi]
  have hu := elT_spec he
  have hl := g2.length
  have hf : off + n * szOf P e + us.length ≤ bs.toArray.size := by
    rw [s1.len, List.size_toArray, hl, Nat.add_assoc, ← Nat.add_mul]; exact hfit
  have hrun := run_append_room_at (P := P) w t tx ty e i hu hi b off n c bt x2 m us (hsz ▸ s1.src hx) bs.toArray g1 hroom (hsz ▸ hf)
  have G := goes_set hM hk hbb (splice_len (by rw [hs.length, Nat.add_assoc, ← Nat.add_mul]; exact hfit)) (splice_rep g2 s2) (one_splice (off := off + n * szOf P e) g3 s1.one)
  refine ⟨_, _, η, _, _, hrun, h, by simp only [Rep]; exact .inl ⟨b, hbb, rfl, hroom, hb⟩, ?_⟩
  rw [← hsz]
  exact G
theorem dappend_new {t tx ty e : TypeId} (he : elT P t = some e) (hx : (elT P tx).isSome = true) (hz : zeroT P e = true) (hz2 : zeroOk P e = true) {n c m : Nat} {x : D} {olds news : List D} {y : D} {K : D → St → Prop} (ho : SrcOk S (szOf P e) x n olds) (hxc : ∀ k' off' n' c', x = .win k' off' n' c' → c' = c) (hxs : ∀ o es, x = .sl o es → o = .full ∧ c = es.length) (hs : SrcOk S (szOf P e) y m news)
    (hgrow : c < n + m) (hb : n + m ≤ 140737488355328) (hby : (n + m) * bytesOf P e ≤ 140737488355328)
    (h : ∀ (c' : Nat) (zs : List D), n + m ≤ c' → (olds ++ news ++ zs).length = c' * szOf P e → K (.win S.next 0 (n + m) c') (S.add (.box e (olds ++ news ++ zs)))) : dappW P t tx ty x y S K := by
  intro base η w vs hM hr
  simp only [RepL] at hr
  obtain ⟨x1, _, rfl, r1, x2, _, rfl, r2, rfl⟩ := hr
  obtain ⟨us, s1, s2⟩ := srcOk_at hM hs r2
  obtain ⟨os, o1, o2⟩ := srcOk_at hM ho r1
  obtain ⟨i, z, hi, hzr, hzs, hpos, hsz, hbz⟩ := zeroT_spec hz
  obtain ⟨z2, i2, hi2, hz2r, _, hz1, _⟩ := zeroOk_spec hz2
  rw [hi] at hi2
  injection hi2 with hi2
  subst hi2
  rw [hzr] at hz2r
  injection hz2r with hz2r
  subst hz2r
  have hu := elT_spec he
  have hel : (elT P t).isSome = true := by rw [he]; rfl
  obtain ⟨A, cc, e1, _, _⟩ := o1.sl
  have hcc : cc = c := by
    cases x with
    | win k' off' n' c' =>
      obtain ⟨A', e2, _⟩ := r1.win_slice
      rw [e1] at e2
      injection e2 with _ _ e2
      rw [e2]
      exact hxc _ _ _ _ rfl
    | sl o es =>
      obtain ⟨rfl, rfl⟩ := hxs _ _ rfl
      simp only [Rep, OwnAt] at r1
      obtain ⟨A', c', e2, _, _, rfl, _⟩ := r1
      rw [e1] at e2
      injection e2 with _ _ e2
    | _ => exact ho.elim
  subst hcc
  subst e1
  have hso := o1.src hel
  have hsn := s1.src hx
  rw [hsz] at hso hsn
  have hcold := hso.cellsD
  have hrun := run_append_grow_src (P := P) w t tx ty e i z hu hi hzr A n cc os hcold x2 m us hsn hgrow (by omega) (growslice_fits hgrow (by rw [← hbz]; exact hby))
  have G1 := goes_drew hM
  have hge := grownCap_ge w (n + m) cc e
  have G3 := G1.trans (goes_name G1.mem (.box e (olds ++ news ++ (Builtin.zeroCells z.cells (grownCap w (n + m) cc e - (n + m))).toList.map ofV)) ((os ++ us).toArray ++ Builtin.zeroCells z.cells (grownCap w (n + m) cc e - (n + m))) e
    (.inl ⟨_, os ++ us ++ (Builtin.zeroCells z.cells (grownCap w (n + m) cc e - (n + m))).toList, rfl, by apply Array.ext'; simp, RepL.append (RepL.append (G1.repL o2) (G1.repL s2)) (zeroD_rep _), fun u hu' => (List.mem_append.1 hu').elim (fun hh => (List.mem_append.1 hh).elim (o1.one u) (s1.one u)) fun hh => hz1 u (zeroCells_mem hh)⟩))
  refine ⟨_, _, _, _, _, hrun, h _ _ hge ?_, ?_, G3⟩
  · have e1 := size_zeroCells z.cells (grownCap w (n + m) cc e - (n + m))
    rw [← Array.length_toList] at e1
    rw [List.length_append, List.length_append, List.length_map, ho.length, hs.length, e1, hzs, hsz, ← Nat.add_mul, ← Nat.add_mul]
    congr 1
    omega
  · simp only [Rep]
    exact .inl ⟨w.heap.size, by simp only [Names.add, ↓reduceIte]; rfl, rfl, hge, hb⟩
/-! ### Owned slices -/
theorem DRun.thaw {run : List Value → Sem Value} {args : List D} {K : D → St → Prop} (h : DRun P run args S fun d S' => ∃ S1 d1, Thaw P S' d S1 d1 ∧ K d1 S1) : DRun P run args S K := fun base η w vs hM hr => by
  obtain ⟨d, S', η', v, w', h1, ⟨S1, d1, h2, h3⟩, h4, h5⟩ := h base η w vs hM hr
  obtain ⟨η2, k1, k2⟩ := h2 base η' w' v h5.mem h4
  exact ⟨d1, S1, η2, v, w', h1, h3, k2, h5.trans k1⟩
theorem DCalls.thaw {g : FuncId} {args : List D} {K : D → St → Prop} (h : DCalls P g args S fun d S' => ∃ S1 d1, Thaw P S' d S1 d1 ∧ K d1 S1) : DCalls P g args S K := fun base η w vs hM hr => by
  rcases h base η w vs hM hr with ⟨h1, h2⟩ | ⟨d, S', η', v, w', h1, ⟨S1, d1, h2, h3⟩, h4, h5⟩
  · refine .inl ⟨h1, h2.mono fun e w' ⟨d, S', η', v, ⟨S1, d1, h2, h3⟩, he, h4, h5⟩ => ?_⟩
    obtain ⟨η2, k1, k2⟩ := h2 base η' w' v h5.mem h4
    exact ⟨d1, S1, η2, v, h3, he, k2, h5.trans k1⟩
  · obtain ⟨η2, k1, k2⟩ := h2 base η' w' v h5.mem h4
    exact .inr ⟨d1, S1, η2, v, w', h1, h3, k2, h5.trans k1⟩
theorem goes_rename (h : Mem P base S η w) {k : Nat} {o : Ob} {b : Option Nat} (hk : S.ob k = some o) (hb : η k = some b) : Goes P base S η w ((S.drop k).add o) (η.add S.next b) w := by
  have hkn : k < S.next := h.lt (by rw [hb]; rfl)
  have ob_new : ((S.drop k).add o).ob S.next = some o := by simp [St.add, St.drop]
  have ob_old : ∀ j, j ≠ S.next → ((S.drop k).add o).ob j = if j = k then none else S.ob j := fun j hj => by simp [St.add, St.drop, hj]
  have ob_some : ∀ j o', ((S.drop k).add o).ob j = some o' → (j = S.next ∧ o' = o) ∨ (j ≠ S.next ∧ j ≠ k ∧ S.ob j = some o') := fun j o' hj => by
    by_cases e : j = S.next
    · subst e; rw [ob_new] at hj; injection hj with hj; exact .inl ⟨rfl, hj.symm⟩
    · rw [ob_old j e] at hj
      by_cases e2 : j = k
      · rw [if_pos e2] at hj; cases hj
      · rw [if_neg e2] at hj; exact .inr ⟨e, e2, hj⟩
  have eta_new : (η.add S.next b) S.next = some b := by simp [Names.add]
  have eta_old : ∀ j, j ≠ S.next → (η.add S.next b) j = η j := fun j hj => by simp [Names.add, hj]
  have K : Keep (fun _ => True) w η (Fix P S η) w (η.add S.next b) (Fix P ((S.drop k).add o) (η.add S.next b)) := by
    refine ⟨Nat.le_refl _, fun q i _ hx => ⟨fun j o' hj ho => ?_, rfl⟩, fun j c _ hj => ?_, fun q cur e hq => ⟨cur, hq, rfl⟩⟩
    · rcases ob_some j o' ho with ⟨rfl, rfl⟩ | ⟨e1, e2, e3⟩
      · rw [eta_new] at hj
        injection hj with hj
        exact hx k o' (by rw [hb, hj]) hk
      · rw [eta_old j e1] at hj
        exact hx j o' hj e3
    · have : j ≠ S.next := fun e => by subst e; rw [h.dead _ (Nat.le_refl _)] at hj; cases hj
      rw [eta_old j this]; exact hj
  have src : ∀ j b', (η.add S.next b) j = some (some b') → (((S.drop k).add o).ob j).isSome = true → ∃ j', η j' = some (some b') ∧ (S.ob j').isSome = true ∧ ((j = S.next ∧ j' = k) ∨ (j ≠ S.next ∧ j ≠ k ∧ j' = j)) := fun j b' hj ho => by
    obtain ⟨o', ho⟩ := Option.isSome_iff_exists.1 ho
    rcases ob_some j o' ho with ⟨rfl, rfl⟩ | ⟨e1, e2, e3⟩
    · rw [eta_new] at hj
      injection hj with hj
      exact ⟨k, by rw [hb, hj], by rw [hk]; rfl, .inl ⟨rfl, rfl⟩⟩
    · rw [eta_old j e1] at hj
      exact ⟨j, hj, by rw [e3]; rfl, .inr ⟨e1, e2, rfl⟩⟩
  refine ⟨⟨h.base_, fun j hj => ?_, fun j hj => ?_, fun j t cs hj => ?_, fun j j' b' h1 h2 h3 h4 => ?_, fun j b' hj => ?_, fun j t cs b' h1 h2 => ?_, fun j e n b' h1 h2 => ?_, h.glob⟩, K, Below.refl _ _⟩
  · have hj' : S.next + 1 ≤ j := hj
    rw [eta_old j (by omega)]; exact h.dead j (by omega)
  · have hj' : S.next + 1 ≤ j := hj
    rw [ob_old j (by omega), if_neg (by omega)]; exact h.fresh j (by omega)
  · rcases ob_some j _ hj with ⟨rfl, rfl⟩ | ⟨e1, e2, e3⟩
    · obtain ⟨b', hb'⟩ := h.live k t cs hk
      rw [hb] at hb'
      injection hb' with hb'
      exact ⟨b', by rw [eta_new, hb']⟩
    · obtain ⟨b', hb'⟩ := h.live j t cs e3
      exact ⟨b', by rw [eta_old j e1]; exact hb'⟩
  · obtain ⟨i, a1, a2, a3⟩ := src j b' h1 h3
    obtain ⟨i', c1, c2, c3⟩ := src j' b' h2 h4
    have := h.inj i i' b' a1 c1 a2 c2
    rcases a3 with ⟨rfl, rfl⟩ | ⟨a3, a4, rfl⟩ <;> rcases c3 with ⟨rfl, rfl⟩ | ⟨c3, c4, rfl⟩
    · rfl
    · exact absurd this.symm c4
    · exact absurd this a4
    · exact this
  · by_cases e : j = S.next
    · subst e
      rw [eta_new] at hj
      injection hj with hj
      exact h.in_ k b' (by rw [hb, hj])
    · rw [eta_old j e] at hj; exact h.in_ j b' hj
  · rcases ob_some j _ h1 with ⟨rfl, rfl⟩ | ⟨e1, e2, e3⟩
    · rw [eta_new] at h2
      injection h2 with h2
      obtain ⟨vs, k1, k2, k3⟩ := h.box k t cs b' hk (by rw [hb, h2])
      exact ⟨vs, k1, RepL.keep K (allL_true _) k2, k3⟩
    · rw [eta_old j e1] at h2
      obtain ⟨vs, k1, k2, k3⟩ := h.box j t cs b' e3 h2
      exact ⟨vs, k1, RepL.keep K (allL_true _) k2, k3⟩
  · rcases ob_some j _ h1 with ⟨rfl, rfl⟩ | ⟨e1, e2, e3⟩
    · rw [eta_new] at h2
      injection h2 with h2
      exact h.row k e n b' hk (by rw [hb, h2])
    · rw [eta_old j e1] at h2
      exact h.row j e n b' e3 h2
theorem thaw_rename {k off n c : Nat} {o : Ob} (hk : S.ob k = some o) : Thaw P S (.win k off n c) ((S.drop k).add o) (.win S.next off n c) := fun base η w v hM hr => by
  simp only [Rep] at hr
  rcases hr with ⟨b, h1, h2⟩ | ⟨h1, h2⟩
  · exact ⟨_, goes_rename hM hk h1, by simp only [Rep]; exact .inl ⟨b, by simp [Names.add], h2⟩⟩
  · exact ⟨_, goes_rename hM hk h1, by simp only [Rep]; exact .inr ⟨by simp [Names.add], h2⟩⟩
theorem thaw_drop (k : Nat) (d : D) : Thaw P S d (S.drop k) d := fun base η w v hM hr => ⟨η, goes_drop hM k, (goes_drop hM k).rep hr⟩
theorem thaw_nil (e : TypeId) : Thaw P S (.sl .full []) (S.add (.row e 0)) (.win S.next 0 0 0) := fun base η w v hM hr => by
  simp only [Rep, OwnAt] at hr
  obtain ⟨A, c, rfl, _, _, rfl, _⟩ := hr
  refine ⟨_, goes_bare hM e 0, ?_⟩
  unfold Rep
  exact .inr ⟨by simp [Names.add], rfl, rfl, A, rfl⟩
theorem St.set_drop (S : St) (k : Nat) (o : Ob) : (S.set k o).drop k = S.drop k := by
  unfold St.set St.drop
  congr 1
  funext j
  by_cases h : j = k <;> simp [h]
theorem St.add_drop (S : St) {k : Nat} (o : Ob) (h : k < S.next) : (S.add o).drop k = (S.drop k).add o := by
  unfold St.add St.drop
  congr 1
  funext j
  by_cases h1 : j = k
  · subst h1
    simp
    omega
  · simp [h1]
theorem flat_append (l m : List D) : flat (l ++ m) = flat l ++ flat m := by simp [flat]
theorem ownOb_len {es zs : List D} {c z : Nat} (hw : ∀ d ∈ es, d.width = z) (hz : 0 < z) (h : (flat es ++ zs).length = c * z) : es.length ≤ c := by
  rw [List.length_append, dflat_length hw] at h
  rcases Nat.lt_or_ge c es.length with h' | h'
  · have : (c + 1) * z ≤ es.length * z := Nat.mul_le_mul_right _ h'
    rw [Nat.add_mul] at this
    omega
  · exact h'
theorem flat_take {es : List D} {z : Nat} (hw : ∀ d ∈ es, d.width = z) (q : Nat) : (flat es).take (q * z) = flat (es.take q) := by
  induction es generalizing q with
  | nil => simp [flat]
  | cons d es ih =>
    cases q with
    | zero => simp [flat]
    | succ q =>
      have h1 : d.cells.length = z := hw d (by simp)
      have h2 := ih (fun x hx => hw x (by simp [hx])) q
      have e1 : flat (d :: es) = d.cells ++ flat es := by simp [flat]
      have e2 : flat (d :: es.take q) = d.cells ++ flat (es.take q) := by simp [flat]
      rw [e1, List.take_succ_cons, e2, ← h2, List.take_append, h1, List.take_of_length_le (by rw [h1, Nat.add_mul]; omega)]
      congr 2
      rw [Nat.add_mul]; omega
theorem flat_drop {es : List D} {z : Nat} (hw : ∀ d ∈ es, d.width = z) (q : Nat) : (flat es).drop (q * z) = flat (es.drop q) := by
  induction es generalizing q with
  | nil => simp [flat]
  | cons d es ih =>
    cases q with
    | zero => simp
    | succ q =>
      have h1 : d.cells.length = z := hw d (by simp)
      have h2 := ih (fun x hx => hw x (by simp [hx])) q
      have e1 : flat (d :: es) = d.cells ++ flat es := by simp [flat]
      rw [e1, List.drop_succ_cons, ← h2, List.drop_append, h1, List.drop_of_length_le (by rw [h1, Nat.add_mul]; omega), List.nil_append]
      congr 1
      rw [Nat.add_mul]; omega
theorem srcOk_own {k c : Nat} {e : TypeId} {es zs : List D} {z : Nat} (hk : S.ob k = some (ownOb e es zs c)) (hc : es.length ≤ c) (hw : ∀ d ∈ es, d.width = z) {l n : Nat} (hq : l + n ≤ es.length) {c' : Nat} : SrcOk S z (.win k (l * z) n c') n (flat ((es.drop l).take n)) := by
  refine ⟨rfl, ?_⟩
  rcases Nat.eq_zero_or_pos c with rfl | h
  · have : es = [] := List.eq_nil_of_length_eq_zero (by omega)
    subst this
    have : n = 0 := by simp at hq; omega
    subst this
    exact .inl ⟨rfl, by simp [flat]⟩
  · rw [ownOb_box h] at hk
    have hf := dflat_length hw
    have hle : (l + n) * z ≤ es.length * z := Nat.mul_le_mul_right _ hq
    rw [Nat.add_mul] at hle
    refine .inr ⟨e, _, hk, ?_, ?_⟩
    · rw [List.length_append, hf]; omega
    · rw [List.drop_append_of_le_length (by rw [hf]; omega), List.take_append_of_le_length (by rw [List.length_drop, hf]; omega), flat_drop hw, flat_take fun d hd => hw d (List.mem_of_mem_drop hd)]
theorem srcOk_own0 {k c : Nat} {e : TypeId} {es zs : List D} {z : Nat} (hk : S.ob k = some (ownOb e es zs c)) (hc : es.length ≤ c) (hw : ∀ d ∈ es, d.width = z) {q : Nat} (hq : q ≤ es.length) {c' : Nat} : SrcOk S z (.win k 0 q c') q (flat (es.take q)) := by
  have := srcOk_own hk hc hw (l := 0) (n := q) (by omega) (c' := c')
  rwa [Nat.zero_mul, List.drop_zero] at this
theorem srcOk_ownA {k c : Nat} {e : TypeId} {es zs : List D} {z : Nat} (hk : S.ob k = some (ownOb e es zs c)) (hc : es.length ≤ c) (hw : ∀ d ∈ es, d.width = z) {c' : Nat} : SrcOk S z (.win k 0 es.length c') es.length (flat es) := by
  have := srcOk_own0 hk hc hw (Nat.le_refl _) (c' := c')
  rwa [List.take_of_length_le (Nat.le_refl _)] at this
theorem zeroT_pos {e : TypeId} (h : zeroT P e = true) : 0 < szOf P e ∧ (P.info? e).isSome = true := by
  obtain ⟨i, z, hi, _, _, hp, hs, _⟩ := zeroT_spec h
  exact ⟨by omega, by rw [hi]; rfl⟩
theorem dappend_own {t tx ty e : TypeId} (he : elT P t = some e) (hx : (elT P tx).isSome = true) (hz : zeroT P e = true) (hz2 : zeroOk P e = true) {k c m : Nat} {es es2 zs : List D} {y : D} {K : D → St → Prop} (hk : S.ob k = some (ownOb e es zs c)) (hl : (flat es ++ zs).length = c * szOf P e) (hw1 : ∀ d ∈ es, d.width = szOf P e) (hs : SrcOk S (szOf P e) y m (flat es2)) (hm : m = es2.length)
    (hb : es.length + es2.length ≤ 140737488355328) (hby : (es.length + es2.length) * bytesOf P e ≤ 140737488355328) (hkn : k < S.next)
    (h : ∀ (c' : Nat) (zs' : List D), es.length + es2.length ≤ c' → (flat (es ++ es2) ++ zs').length = c' * szOf P e → K (.win S.next 0 (es.length + es2.length) c') ((S.drop k).add (ownOb e (es ++ es2) zs' c'))) : dappW P t tx ty (.win k 0 es.length c) y S K := by
  subst hm
  obtain ⟨hzp, hi⟩ := zeroT_pos hz
  have hc := ownOb_len hw1 hzp hl
  refine DRun.thaw ?_
  by_cases hroom : es.length + es2.length ≤ c
  · rcases Nat.eq_zero_or_pos c with rfl | hpos
    · have e1 : es = [] := List.eq_nil_of_length_eq_zero (by omega)
      have e2 : es2 = [] := List.eq_nil_of_length_eq_zero (by omega)
      subst e1 e2
      rw [ownOb_nil] at hk
      intro base η w vs hM hr
      simp only [RepL] at hr
      obtain ⟨x1, _, rfl, r1, x2, _, rfl, r2, rfl⟩ := hr
      obtain ⟨us, s1, s2⟩ := srcOk_at hM hs r2
      have hus : us = [] := List.eq_nil_of_length_eq_zero (by rw [s1.len]; simp)
      subst hus
      obtain ⟨i, hi⟩ := Option.isSome_iff_exists.1 hi
      have hsz : szOf P e = i.size := by simp [szOf, hi]
      obtain ⟨A, rfl, _⟩ := r1.win_slice
      have hsrc := s1.src hx
      rw [hsz] at hsrc
      refine ⟨_, S, η, _, w, run_append_nothing w t tx ty e i (elT_spec he) hi A _ _ (Nat.le_refl _) x2 hsrc, ?_, r1, Goes.refl hM⟩
      exact ⟨_, _, thaw_rename hk, h 0 [] (Nat.le_refl _) (by simp [flat])⟩
    · have hk' := hk
      rw [ownOb_box hpos] at hk'
      have hfl := dflat_length hw1
      refine dappend_in he hx hi hk' hs hroom hb (by rw [Nat.zero_add, hl]; exact Nat.mul_le_mul_right _ hroom) rfl ?_
      refine ⟨_, _, thaw_rename (o := .box e (splice (flat es ++ zs) (0 + es.length * szOf P e) (flat es2))) (by simp [St.set]), ?_⟩
      have hsp : splice (flat es ++ zs) (0 + es.length * szOf P e) (flat es2) = flat (es ++ es2) ++ zs.drop (es2.length * szOf P e) := by
        rw [Nat.zero_add, ← hfl, flat_append]
        unfold splice
        rw [List.take_append_of_le_length (Nat.le_refl _), List.take_of_length_le (Nat.le_refl _), List.drop_append, hs.length]
        simp
      have h2 := h c (zs.drop (es2.length * szOf P e)) hroom (by
        rw [← hsp, splice_len, hl]
        rw [Nat.zero_add, hs.length, hl, ← Nat.add_mul]
        exact Nat.mul_le_mul_right _ hroom)
      rw [ownOb_box hpos, ← hsp] at h2
      rw [St.set_drop]
      exact h2
  · refine dappend_new he hx hz hz2 (srcOk_ownA hk hc hw1) (fun _ _ _ _ e => by injection e with _ _ _ e; exact e.symm) (fun _ _ e => by cases e) hs (by omega) hb hby fun c' zs hc' hl' => ?_
    refine ⟨_, _, thaw_drop k _, ?_⟩
    rw [St.add_drop S _ hkn]
    have := h c' zs hc' (by rw [flat_append]; exact hl')
    rw [ownOb_box (by omega), flat_append] at this
    exact this
theorem dappend_fresh {t tx ty e : TypeId} (he : elT P t = some e) (hx : (elT P tx).isSome = true) (hz : zeroT P e = true) (hz2 : zeroOk P e = true) {m : Nat} {es2 : List D} {y : D} {K : D → St → Prop} (hs : SrcOk S (szOf P e) y m (flat es2)) (hm : m = es2.length)
    (hb : es2.length ≤ 140737488355328) (hby : es2.length * bytesOf P e ≤ 140737488355328)
    (h : ∀ (c' : Nat) (zs' : List D), es2.length ≤ c' → (flat es2 ++ zs').length = c' * szOf P e → K (.win S.next 0 es2.length c') (S.add (ownOb e es2 zs' c'))) : dappW P t tx ty (.sl .full []) y S K := by
  subst hm
  obtain ⟨hzp, hi⟩ := zeroT_pos hz
  rcases Nat.eq_zero_or_pos es2.length with h0 | hpos
  · have e2 : es2 = [] := List.eq_nil_of_length_eq_zero h0
    subst e2
    refine DRun.thaw ?_
    intro base η w vs hM hr
    simp only [RepL] at hr
    obtain ⟨x1, _, rfl, r1, x2, _, rfl, r2, rfl⟩ := hr
    obtain ⟨us, s1, s2⟩ := srcOk_at hM hs r2
    have hus : us = [] := List.eq_nil_of_length_eq_zero (by rw [s1.len]; simp)
    subst hus
    obtain ⟨i, hi⟩ := Option.isSome_iff_exists.1 hi
    have hsz : szOf P e = i.size := by simp [szOf, hi]
    have hsrc := s1.src hx
    rw [hsz] at hsrc
    have r1' := r1
    simp only [Rep, OwnAt] at r1'
    obtain ⟨A, c, rfl, _, _, rfl, _⟩ := r1'
    refine ⟨_, S, η, _, w, run_append_nothing w t tx ty e i (elT_spec he) hi A _ _ (Nat.le_refl _) x2 hsrc, ?_, r1, Goes.refl hM⟩
    exact ⟨_, _, thaw_nil e, h 0 [] (Nat.le_refl _) (by simp [flat])⟩
  · refine dappend_new he hx hz hz2 (n := 0) (c := 0) (olds := []) ⟨(fun _ hx => by cases hx), rfl, rfl⟩ (fun _ _ _ _ e => by cases e) (fun _ _ e => by injection e with e1 e2; subst e1 e2; exact ⟨rfl, rfl⟩) hs (by omega) (by omega) (by rw [Nat.zero_add]; exact hby) fun c' zs hc' hl' => ?_
    simp only [List.nil_append, Nat.zero_add] at hc' hl' ⊢
    have := h c' zs hc' hl'
    rw [ownOb_box (by omega)] at this
    exact this
end
end Go.Proofs.YtbcabejdchkpmaaDoor

namespace Go.Proofs.YtbcabejdchkpmaaDoor
open Go.RowKit
theorem RAt.obk {k : Nat} {l : List UInt8} {i j : Nat} {S T : St} (h : T.ob k = S.ob k) (hr : RAt k l i S) (hij : i = j := by omega) : RAt k l j T := by
  subst hij
  obtain ⟨own, hr⟩ := hr
  exact ⟨own, h.trans hr⟩
end Go.Proofs.YtbcabejdchkpmaaDoor

namespace Go.Proofs.YtbcabejdchkpmaaDoor
open Go.RowKit
theorem DCalls.frz {P : Program} {g : FuncId} {args : List D} {S : St} {K K' : D → St → Prop} (h : DCalls P g args S K) (hk : ∀ d T, K d T → K' d.frz T) : DCalls P g args S K' := fun base η w vs hM hr => by
  rcases h base η w vs hM hr with ⟨h1, h2⟩ | ⟨d, S', η', v, w', h1, h2, h3, h4⟩
  · exact .inl ⟨h1, h2.mono fun _ _ ⟨d, S', η', v, h1, h2, h3, h4⟩ => ⟨d.frz, S', η', v, hk _ _ h1, h2, h3.frz, h4⟩⟩
  · exact .inr ⟨d.frz, S', η', v, w', h1, hk _ _ h2, h3.frz, h4⟩
section
set_option maxRecDepth 200000
set_option maxHeartbeats 8000000
end
end Go.Proofs.YtbcabejdchkpmaaDoor

namespace Go.Proofs.YtbcabejdchkpmaaDoor
open Go.RowKit
theorem grow_old {S : St} {own : Own} {e : TypeId} {n m : Nat} (hm : m < S.next) (h : ∀ r, own = .row r → m ≠ r) : (S.grow own e n).ob m = S.ob m := by
  cases own with
  | no => simp [St.grow, St.leave, St.add, show m ≠ S.next by omega]
  | full => simp [St.grow, St.leave, St.add, show m ≠ S.next by omega]
  | row r => simp [St.grow, St.leave, St.add, St.drop, show m ≠ S.next by omega, h r rfl]
theorem grow_new {S : St} {own : Own} {e : TypeId} {n : Nat} : (S.grow own e n).ob S.next = some (.row e n) := by
  cases own <;> simp [St.grow, St.leave, St.add, St.drop]
end Go.Proofs.YtbcabejdchkpmaaDoor

namespace Go.Proofs.YtbcabejdchkpmaaDoor
open Go.RowKit
theorem bin_quo {P : Program} {t : TypeId} {x y : Operand} (k : IntKind) (a b : Int) (hb : b ≠ 0) : dbin P .quo t x y (.v (.int k a)) (.v (.int k b)) = some (True, .v (.int k (k.wrap (a.tdiv b)))) := by
  simp [dbin, eqGuard, binOp, Op.intDiv, pureRun_bind, pureRun_pure, hb]
theorem dapp_bytes2 {S : St} {ty : TypeId} {own own2 : Own} {bs xs : List UInt8} {K : D → St → Prop} (h : own = .full ∨ ∃ g, own = .row g ∧ S.ob g = some (.row 5 bs.length)) (hl : bs.length + xs.length ≤ 1099511627776)
    (k : K (.sl (.row S.next) ((bs ++ xs).map bD)) (S.grow own 5 (bs.length + xs.length))) : dapp Tryd.prog S 30 30 ty (.sl own (bs.map bD)) (.sl own2 (xs.map bD)) K := by
  refine dapp_row ?_
  have he : elT Tryd.prog 30 = some 5 := by kernel_rfl
  have hb : bytesOf Tryd.prog 5 = 1 := by kernel_rfl
  have hz : zeroT Tryd.prog 5 = true := by kernel_rfl
  simp only [dappend, he, hz, hb, List.length_map, ← List.map_append, true_and, Option.isSome_some]
  refine ⟨wd_bD bs, wd_bD xs, ?_, by omega, by omega, k⟩
  rcases h with rfl | ⟨g, rfl, h⟩
  · trivial
  · exact h
def NewB (S T : St) (d : D) (bs : List UInt8) : Prop := ∃ own, d = .sl own (bs.map bD) ∧ (own = .full ∨ ∃ g, own = .row g ∧ S.next ≤ g ∧ T.ob g = some (.row 5 bs.length)) ∧ S.next ≤ T.next ∧ ∀ j o, S.ob j = some o → T.ob j = some o
theorem NewB.grow {S T : St} {own own2 : Own} {bs xs : List UInt8} (hS : S.WF) (h : own = .full ∨ ∃ g, own = .row g ∧ S.next ≤ g ∧ T.ob g = some (.row 5 bs.length)) (hn : S.next ≤ T.next) (hk : ∀ j o, S.ob j = some o → T.ob j = some o) : NewB S (T.grow own 5 (bs.length + xs.length)) (.sl (.row T.next) ((bs ++ xs).map bD)) (bs ++ xs) := by
  refine ⟨_, rfl, .inr ⟨T.next, rfl, hn, by rw [grow_new, List.length_append]⟩, by rw [grow_next]; omega, fun j o e => ?_⟩
  have := hS.lt e
  rw [grow_old (by omega) (fun r e2 => ?_), hk j o e]
  rcases h with h | ⟨g, h, hg, _⟩
  · rw [h] at e2; cases e2
  · rw [h] at e2; injection e2 with e2; omega
set_option maxRecDepth 200000 in
set_option maxHeartbeats 8000000 in
theorem refNum_w (m : Nat) : ∀ (n : Nat) (S : St), IsU64 n → n < m → DCalls Tryd.prog 77 [.v (.int .u64 (n : Int))] S fun d T => NewB S T d (numB n) := by
  induction m with
  | zero => intro n S _ h; omega
  | succ m ih =>
    intro n S hn hm
    refine dcalls_inline mixed Tryd.func77 rfl (fun _ _ => by kernel_rfl) (rs := [.tmp 2]) rfl (by kernel_rfl) (fun hS => ?_)
    by_cases h : n < 128
    · have b1 : decide ((n : Int) < 128) = true := by simp; omega
      have w8 : IntKind.u8.wrap (n : Int) = (n : Int) := by rw [wrap_u8]; omega
      (simp (disch := first | decide | omega | (simp only [nx]; first | done | omega)) only [go_sem, b1, w8]; (repeat with_reducible refine aI ?_))
      refine ⟨.full, ?_, .inl rfl, Nat.le_refl _, fun _ _ h => h⟩
      rw [numB_lt n h, ← bD1 n (by omega)]
    · have b1 : decide ((n : Int) < 128) = false := by simp; omega
      have e1 : (n : Int).tmod 128 = ((n % 128 : Nat) : Int) := rfl
      have e2 : (n : Int).tdiv 128 = ((n / 128 : Nat) : Int) := rfl
      have w8 : IntKind.u8.wrap ((n % 128 : Nat) : Int) = ((n % 128 : Nat) : Int) := by rw [wrap_u8]; omega
      have wa : IntKind.u8.wrap (((n % 128 : Nat) : Int) + 128) = ((n % 128 + 128 : Nat) : Int) := by
        rw [show ((n % 128 : Nat) : Int) + 128 = ((n % 128 + 128 : Nat) : Int) from by push_cast; rfl, wrap_u8]; omega
      have wq : IntKind.u64.wrap ((n / 128 : Nat) : Int) = ((n / 128 : Nat) : Int) := wrap_u64 _ (by unfold IsU64 at *; omega)
      (simp (disch := first | decide | omega | (simp only [nx]; first | done | omega)) only [go_sem, b1, bin_rem, bin_quo, e1, e2, w8, wa, wq]; (repeat with_reducible refine aI ?_))
      refine (ih (n / 128) S (by unfold IsU64 at *; omega) (by omega)).mono ?_
      rintro _ T ⟨own, rfl, ho, hT1, hT2⟩
      (simp (disch := first | decide | omega | (simp only [nx]; first | done | omega)) only [go_sem]; (repeat with_reducible refine aI ?_))
      rw [bD1 (n % 128 + 128) (by omega)]
      have hln := numB_length_le (n / 128) (by unfold IsU64 at *; omega)
      refine dapp_bytes2 (.inl rfl) (by simp only [List.length_cons, List.length_nil]; omega) ?_
      (simp (disch := first | decide | omega | (simp only [nx]; first | done | omega)) only [go_sem]; (repeat with_reducible refine aI ?_))
      rw [numB_ge n h]
      exact NewB.grow (own := .full) (own2 := .full) (bs := [b8 (n % 128 + 128)]) (xs := numB (n / 128)) hS (.inl rfl) hT1 hT2
set_option maxRecDepth 200000 in
set_option maxHeartbeats 8000000 in
theorem refByt_w {S : St} (own : Own) (xs : List UInt8) (hx : xs.length ≤ 1000000) : DCalls Tryd.prog 62 [.sl own (xs.map bD)] S fun d T => NewB S T d (numB xs.length ++ xs) := by
  refine dcalls_inline mixed Tryd.func62 rfl (fun _ _ => by kernel_rfl) (rs := [.tmp 2]) rfl (by kernel_rfl) (fun hS => ?_)
  have hu : IsU64 xs.length := by unfold IsU64; omega
  (simp (disch := first | decide | omega | (simp only [nx]; first | done | omega)) only [go_sem, wrap_u64 xs.length hu]; (repeat with_reducible refine aI ?_))
  refine (refNum_w _ xs.length S hu (Nat.lt_succ_self _)).mono ?_
  rintro _ T ⟨own, rfl, ho, hT1, hT2⟩
  (simp (disch := first | decide | omega | (simp only [nx]; first | done | omega)) only [go_sem]; (repeat with_reducible refine aI ?_))
  have hln := numB_length_le xs.length hu
  refine dapp_bytes2 (ho.imp id fun ⟨g, h1, _, h2⟩ => ⟨g, h1, h2⟩) (by omega) ?_
  (simp (disch := first | decide | omega | (simp only [nx]; first | done | omega)) only [go_sem]; (repeat with_reducible refine aI ?_))
  exact NewB.grow (own2 := .full) hS ho hT1 hT2
end Go.Proofs.YtbcabejdchkpmaaDoor

namespace Go.Proofs.YtbcabejdchkpmaaDoor
open Go.RowKit

section
variable {P : Program} {base : Nat} {S : St} {η : Names} {w : World}
def OwnD (P : Program) (S : St) (e : TypeId) (es : List D) (d : D) : Prop := (es = [] ∧ d = .sl .full []) ∨ ∃ k c zs, d = .win k 0 es.length c ∧ S.ob k = some (ownOb e es zs c) ∧ (flat es ++ zs).length = c * szOf P e ∧ k < S.next
def St.left (S : St) : D → St
  | .win k _ _ _ => S.drop k
  | _ => S
theorem dapp_ownD {t tx ty e : TypeId} (he : elT P t = some e) (hx : (elT P tx).isSome = true) (hz : zeroT P e = true) (hz2 : zeroOk P e = true) {d : D} {es es2 : List D} {o2 : Own} {K : D → St → Prop} (hd : OwnD P S e es d) (hw1 : ∀ d ∈ es, d.width = szOf P e) (hw2 : ∀ d ∈ es2, d.width = szOf P e)
    (hb : es.length + es2.length ≤ 140737488355328) (hby : (es.length + es2.length) * bytesOf P e ≤ 140737488355328)
    (h : ∀ (c' : Nat) (zs' : List D), (flat (es ++ es2) ++ zs').length = c' * szOf P e → K (.win S.next 0 (es.length + es2.length) c') ((S.left d).add (ownOb e (es ++ es2) zs' c'))) : dapp P S t tx ty d (.sl o2 es2) K := by
  rcases hd with ⟨rfl, rfl⟩ | ⟨k, c, zs, rfl, hk, hl, hkn⟩
  · refine dapp_nil he (dappend_fresh he hx hz hz2 (srcOk_sl hw2) rfl (by simpa using hb) (by simpa using hby) fun c' zs' _ h2 => ?_)
    have := h c' zs' (by simpa using h2)
    simpa [St.left] using this
  · rw [dapp_atw]
    exact dappend_own he hx hz hz2 hk hl hw1 (srcOk_sl hw2) rfl hb hby hkn fun c' zs' _ h2 => h c' zs' h2
end
end Go.Proofs.YtbcabejdchkpmaaDoor

namespace Go.Proofs.YtbcabejdchkpmaaDoor
open Go.RowKit
theorem wSs (l : List Str) : ∀ d ∈ l.map strD, d.width = 1 := fun d hd => by obtain ⟨p, _, rfl⟩ := List.mem_map.1 hd; rfl
end Go.Proofs.YtbcabejdchkpmaaDoor

namespace Go.Proofs.YtbcabejdchkpmaaDoor
open Go.RowKit
theorem inl_cell_tmp_normal {P : Program} {f : Fm} {K : D → St → Prop} (x : Tmp) (t : TypeId) (u : Tmp) (S' : St) : DQ.inl P [.cell x t, .tmp u] K .normal f S' = dcellR P S' t (f x) (fun r => K (.tup [r, f u]) S') := by
  rw [← onVal_cell]
  simp [DQ.inl, dresL, dres, onVal, one]
theorem inl_cell_tmp_ret {P : Program} {f : Fm} {K : D → St → Prop} (x : Tmp) (t : TypeId) (u : Tmp) (S' : St) : DQ.inl P [.cell x t, .tmp u] K .ret f S' = dcellR P S' t (f x) (fun r => K (.tup [r, f u]) S') := by
  rw [← onVal_cell]
  simp [DQ.inl, dresL, dres, onVal, one]
attribute [go_sem] inl_cell_tmp_normal inl_cell_tmp_ret
section
variable {Q Q' : Nat → Prop} {T X Y : St} {k : Nat} {o : Ob}
end
end Go.Proofs.YtbcabejdchkpmaaDoor

namespace Go.Proofs.YtbcabejdchkpmaaDoor
open Go.RowKit
theorem grow_hit {S : St} {own : Own} {e : TypeId} {n : Nat} : (S.grow own e n).ob S.next = some (.row e n) := by
  cases own <;> simp [St.grow, St.leave, St.add, St.drop]
theorem grow_skip {S : St} {own : Own} {e : TypeId} {n j : Nat} (h1 : j ≠ S.next) (h2 : ∀ g, own = .row g → j ≠ g) : (S.grow own e n).ob j = S.ob j := by
  cases own with
  | row g => simp [St.grow, St.leave, St.add, St.drop, h1, h2 g rfl]
  | no => simp [St.grow, St.leave, St.add, h1]
  | full => simp [St.grow, St.leave, St.add, h1]
def RowAt (lo : Nat) (own : Own) (n : Nat) (e : TypeId) (T : St) : Prop := (own = .full ∧ n = 0) ∨ ∃ g, own = .row g ∧ lo ≤ g ∧ T.ob g = some (.row e n)
theorem RowAt.ne {lo n j : Nat} {own : Own} {e : TypeId} {T : St} (h : RowAt lo own n e T) (hj : j < lo ∨ ∃ t cs, T.ob j = some (.box t cs)) : ∀ g, own = .row g → j ≠ g := fun g hg => by
  rcases h with ⟨h, _⟩ | ⟨g', h, h1, h2⟩
  · rw [h] at hg; cases hg
  · rw [h] at hg; injection hg with hg; subst hg
    rintro rfl
    rcases hj with hj | ⟨t, cs, hj⟩
    · omega
    · rw [hj] at h2; cases h2
theorem dapp_at {P : Program} {S : St} {t ty e : TypeId} {own own2 : Own} {es : List D} {x : D} {lo : Nat} {K : D → St → Prop} (he : elT P t = some e) (hz : zeroT P e = true) (h : RowAt lo own es.length e S) (hw : ∀ d ∈ es, d.width = szOf P e) (hx : x.width = szOf P e)
    (hb : es.length + 1 ≤ 140737488355328) (hb2 : (es.length + 1) * bytesOf P e ≤ 140737488355328) (k : K (.sl (.row S.next) (es ++ [x])) (S.grow own e (es.length + 1))) : dapp P S t t ty (.sl own es) (.sl own2 [x]) K := by
  refine dapp_row ?_
  simp only [dappend, he, hz, true_and, Option.isSome_some, List.length_cons, List.length_nil]
  refine ⟨hw, fun d hd => by rw [List.mem_singleton] at hd; subst hd; exact hx, ?_, hb, hb2, k⟩
  rcases h with ⟨rfl, h⟩ | ⟨g, rfl, _, h⟩
  · trivial
  · exact h
structure Two (o lo : Nat) (e1 e2 : TypeId) (f : D → D → List D) (L1 L2 : List D) (o1 o2 : Own) (T : St) : Prop where
  box : T.ob o = some (.box 82 (f (.sl o1 L1) (.sl o2 L2)))
  r1 : RowAt lo o1 L1.length e1 T
  r2 : RowAt lo o2 L2.length e2 T
end Go.Proofs.YtbcabejdchkpmaaDoor

namespace Go.Proofs.YtbcabejdchkpmaaDoor
open Go.RowKit
theorem RowAt.rfr {lo n k : Nat} {own : Own} {e : TypeId} {T T' : St} (h : RowAt lo own n e T) (hb : ∃ t cs, T.ob k = some (.box t cs)) (hf : RFr k T T') : RowAt lo own n e T' := by
  rcases h with h | ⟨g, h, h1, h2⟩
  · exact .inl h
  · refine .inr ⟨g, h, h1, hf.ob g _ (fun hg => ?_) h2⟩
    obtain ⟨t, cs, hb⟩ := hb
    rw [hg, hb] at h2; cases h2
theorem RAt.isbox {k : Nat} {l : List UInt8} {i : Nat} {T : St} (h : RAt k l i T) : ∃ t cs, T.ob k = some (.box t cs) := by obtain ⟨own, h⟩ := h; exact ⟨_, _, h⟩
end Go.Proofs.YtbcabejdchkpmaaDoor

namespace Go.Proofs.YtbcabejdchkpmaaDoor
open Go.RowKit
attribute [go_sem] sv_beq
theorem refSameS_d (a b : DSch) (hoa : okS a) (hob : okS b) : DPure Tryd.prog 31 [encS a, encS b] (.v (.bool (eqB a b))) :=
  dpure_of_gives (fun _ _ => by kernel_rfl) fun w η X vs hr => by
    simp only [RepL] at hr
    obtain ⟨x, xs, rfl, h1, y, ys, rfl, h2, rfl⟩ := hr
    obtain ⟨cs, rfl, hv⟩ := sch_of_rep a.depth a (Nat.le_refl _) hoa h1
    obtain ⟨ds, rfl, hw⟩ := sch_of_rep b.depth b (Nat.le_refl _) hob h2
    exact refSchSame_calls a.depth a b cs ds w (Nat.le_refl _) hv hw
end Go.Proofs.YtbcabejdchkpmaaDoor

namespace Go.Proofs.YtbcabejdchkpmaaDoor
open Go.RowKit
inductive GV : DVal → DSch → Prop
  | mk {v : DVal} {s : DSch} (h1 : hereV v = true) (h2 : headF v s = true) (h3 : ∀ i, i < v.parts.length → atF s i < s.parts.length) (h4 : ∀ i, (hi : i < v.parts.length) → GV v.parts[i] (s.parts.getD (atF s i) default)) : GV v s
end Go.Proofs.YtbcabejdchkpmaaDoor

namespace Go.Proofs.YtbcabejdchkpmaaDoor
open Go.RowKit
def errO (c : Nat) : D := if c = 0 then .v .nilIface else .ifc 25 (.v (.int .i64 (c : Int)))
theorem errO_closed (c : Nat) : (errO c).closed := by unfold errO; split <;> simp [D.closed, D.all]
end Go.Proofs.YtbcabejdchkpmaaDoor

namespace Go.Proofs.YtbcabejdchkpmaaDoor
open Go.RowKit
theorem DCalls.fin {P : Program} {g : FuncId} {args : List D} {S : St} {K : D → St → Prop} (h : DCalls P g args S fun d T => DFinT P S T d K) : DCalls P g args S K := fun base η w vs hM hr => by
  rcases h base η w vs hM hr with ⟨h1, h2⟩ | ⟨d, S', η', v, w', h1, ⟨S1, d1, t1, d', S'', q1, q2, q3, q4, q5, q6⟩, h3, h4⟩
  · refine .inl ⟨h1, h2.mono fun e w' ⟨d, S', η', v, ⟨S1, d1, t1, d', S'', q1, q2, q3, q4, q5, q6⟩, he, h3, h4⟩ => ?_⟩
    obtain ⟨η3, t2, t3⟩ := t1 _ _ _ _ h4.mem h3
    obtain ⟨g1, g2⟩ := goes_fin hM (h4.trans t2) q3 q4 q5
    exact ⟨d', S'', _, v, q6, he, g2 d' v q2 (q1 _ _ _ _ _ t3), g1⟩
  · obtain ⟨η3, t2, t3⟩ := t1 _ _ _ _ h4.mem h3
    obtain ⟨g1, g2⟩ := goes_fin hM (h4.trans t2) q3 q4 q5
    exact .inr ⟨d', S'', _, v, w', h1, q6, g2 d' v q2 (q1 _ _ _ _ _ t3), g1⟩
theorem frz_bDs (l : List UInt8) : frzL (l.map bD) = l.map bD := by simp [frzL_map, bD, D.frz, Function.comp_def]
theorem closed_bDs (l : List UInt8) : (D.sl .no (l.map bD)).closed := by
  simp only [D.closed, D.all, Own.all, true_and]
  refine allL_iff.2 fun d hd => ?_
  obtain ⟨b, _, rfl⟩ := List.mem_map.1 hd
  simp [bD, D.all]
theorem dpure_newB {g : FuncId} {args : List D} {bs : List UInt8} (h : ∀ S : St, DCalls Tryd.prog g args S fun d T => NewB S T d bs) : DPure Tryd.prog g args (.sl .no (bs.map bD)) := fun S base η w vs hM hr =>
  DCalls.fin ((h S).mono fun d T ⟨own, he, ho, h1, h2⟩ => DFin.t ⟨.sl .no (bs.map bD), S, by
      have := DLe.frz (D.sl own (bs.map bD))
      simp only [D.frz, frz_bDs] at this
      rw [he]; exact this, D.all_mono (fun _ h => h.elim) (closed_bDs bs), h1, Nat.le_refl _, fun k o hk => ⟨h2 k o hk, St.WF.lt (S := S) hM.fresh hk, fun _ _ _ => .inl hk⟩, rfl, rfl⟩) base η w vs hM hr
theorem refByt_d (own : Own) (xs : List UInt8) (hx : xs.length ≤ 1000000) : DPure Tryd.prog 62 [.sl own (xs.map bD)] (.sl .no ((numB xs.length ++ xs).map bD)) := dpure_newB fun S => refByt_w own xs hx
theorem NewB.weak {S S1 T : St} {d : D} {bs : List UInt8} (h : NewB S1 T d bs) (hn : S.next ≤ S1.next) (hk : ∀ j o, S.ob j = some o → S1.ob j = some o) : NewB S T d bs := by
  obtain ⟨own, e, h1, h2, h3⟩ := h
  exact ⟨own, e, h1.imp id fun ⟨g, g1, g2, g3⟩ => ⟨g, g1, by omega, g3⟩, by omega, fun j o hj => h3 j o (hk j o hj)⟩
section
set_option maxRecDepth 200000
set_option maxHeartbeats 16000000
end
end Go.Proofs.YtbcabejdchkpmaaDoor

namespace Go.Proofs.YtbcabejdchkpmaaDoor
open Go.RowKit
def skindB (s : DSch) : UInt8 := UInt8.ofNat s.kind.toNat
def bytesS : Nat → DSch → List UInt8
  | 0, _ => []
  | m + 1, s => skindB s :: (if s.kind = 4 ∨ s.kind = 5 then numB s.words.length else []) ++ ((List.range s.words.length).flatMap fun i => (numB (s.words.getD i []).length ++ s.words.getD i []) ++ (if s.kind = 5 then bytesS m (s.parts.getD i default) else [])) ++ (if s.kind = 6 then bytesS m (s.parts.getD 0 default) else [])
def sheadB (s : DSch) : List UInt8 := skindB s :: (if s.kind = 4 ∨ s.kind = 5 then numB s.words.length else [])
def swordB (m : Nat) (s : DSch) (i : Nat) : List UInt8 := (List.range i).flatMap fun i => (numB (s.words.getD i []).length ++ s.words.getD i []) ++ (if s.kind = 5 then bytesS m (s.parts.getD i default) else [])
def stailB (m : Nat) (s : DSch) : List UInt8 := if s.kind = 6 then bytesS m (s.parts.getD 0 default) else []
theorem bytesS_succ (m : Nat) (s : DSch) : bytesS (m + 1) s = sheadB s ++ swordB m s s.words.length ++ stailB m s := rfl
theorem swordB_succ (m : Nat) (s : DSch) (i : Nat) : swordB m s (i + 1) = swordB m s i ++ ((numB (s.words.getD i []).length ++ s.words.getD i []) ++ (if s.kind = 5 then bytesS m (s.parts.getD i default) else [])) := by
  unfold swordB
  rw [List.range_succ, List.flatMap_append]
  simp
structure SF (k : Nat) (s : DSch) : Prop where
  kind : 1 ≤ s.kind ∧ s.kind ≤ 6
  nw : s.words.length ≤ 8
  names : ∀ w ∈ s.words, nameB w = true
  nowords : s.kind ≠ 4 → s.kind ≠ 5 → s.words = []
  noparts : s.kind ≠ 5 → s.kind ≠ 6 → s.parts = []
  k4 : s.kind = 4 → 0 < s.words.length ∧ unlikeB s.words = true
  k5 : s.kind = 5 → s.parts.length = s.words.length ∧ risingB s.words = true
  k6 : s.kind = 6 → s.parts.length = 1
  parts : ∀ p ∈ s.parts, rightS k p = true
theorem SF.of {k : Nat} {s : DSch} (h : rightS (k + 1) s = true) : SF k s := by
  rw [rightS, Bool.and_eq_true, List.all_eq_true] at h
  obtain ⟨h1, h2⟩ := h
  unfold plainS at h1
  split at h1
  · rename_i e
    simp only [Bool.and_eq_true, decide_eq_true_eq] at h1
    have hw : s.words = [] := List.eq_nil_of_length_eq_zero h1.1
    have hp : s.parts = [] := List.eq_nil_of_length_eq_zero h1.2
    exact ⟨by omega, by rw [hw]; simp, by rw [hw]; simp, fun _ _ => hw, fun _ _ => hp, fun h => by omega, fun h => by omega, fun h => by omega, h2⟩
  split at h1
  · rename_i e
    simp only [Bool.and_eq_true, decide_eq_true_eq, namesB, List.all_eq_true] at h1
    have hp : s.parts = [] := List.eq_nil_of_length_eq_zero h1.2.2.2
    exact ⟨by omega, h1.2.1.1, h1.2.1.2, fun h => absurd e h, fun _ _ => hp, fun _ => ⟨h1.1, h1.2.2.1⟩, fun h => by omega, fun h => by omega, h2⟩
  split at h1
  · rename_i e
    simp only [Bool.and_eq_true, decide_eq_true_eq, namesB, List.all_eq_true] at h1
    exact ⟨by omega, h1.1.1, h1.1.2, fun _ h => absurd e h, fun h => absurd e h, fun h => by omega, fun _ => ⟨h1.2.2, h1.2.1⟩, fun h => by omega, h2⟩
  split at h1
  · rename_i e
    simp only [Bool.and_eq_true, decide_eq_true_eq] at h1
    have hw : s.words = [] := List.eq_nil_of_length_eq_zero h1.1
    exact ⟨by omega, by rw [hw]; simp, by rw [hw]; simp, fun _ _ => hw, fun _ h => absurd e h, fun h => by omega, fun h => by omega, fun _ => h1.2, h2⟩
  · cases h1
theorem SF.w12 {k : Nat} {s : DSch} (h : SF k s) : ∀ w ∈ s.words, w.length ≤ 12 := fun w hw => by
  have := h.names w hw
  unfold nameB at this
  rw [Bool.and_eq_true, decide_eq_true_eq] at this
  exact this.2.2
theorem swts_take : ∀ (l : List DSch) (j : Nat), DSch.weights (l.take j) ≤ DSch.weights l
  | [], j => by simp
  | a :: l, 0 => by simp [DSch.weights]
  | a :: l, j + 1 => by have := swts_take l j; simp only [List.take_succ_cons, DSch.weights]; omega
theorem swts_snoc (l : List DSch) (p : DSch) : DSch.weights (l ++ [p]) = DSch.weights l + p.weight := by
  induction l with
  | nil => simp [DSch.weights]
  | cons a l ihl => simp only [List.cons_append, DSch.weights, ihl]; omega
theorem shead_len {k : Nat} {s : DSch} (h : SF k s) : (sheadB s).length ≤ 11 := by
  have h1 := numB_length_le s.words.length (by have := h.nw; omega)
  unfold sheadB
  split
  · simp only [List.length_cons]; omega
  · simp
mutual
theorem bytesS_len : ∀ (m : Nat) (s : DSch), rightS m s = true → (bytesS m s).length ≤ 100 * s.weight
  | 0, s, _ => by simp [bytesS]
  | m + 1, s, h => by
    have hf := SF.of h
    have h0 := shead_len hf
    have hwe := s.weight_eq
    have h5 := sword_len m s s.words.length (Nat.le_refl _) hf
    rw [bytesS_succ, List.length_append, List.length_append]
    by_cases e6 : s.kind = 6
    · have hp1 := hf.k6 e6
      have hp0 : 0 < s.parts.length := by omega
      have hm := List.getElem_mem hp0
      have h7 := bytesS_len m s.parts[0] (hf.parts _ hm)
      have hw0 := hf.nowords (by omega) (by omega)
      have h8 := DSch.weight_part hm
      have h9 : (swordB m s s.words.length).length = 0 := by rw [hw0]; rfl
      unfold stailB
      rw [if_pos e6, getD_at hp0]
      have h10 : s.parts[0].weight ≤ DSch.weights s.parts := by
        have h := swts_take s.parts (0 + 1)
        rw [List.take_succ_eq_append_getElem hp0, List.take_zero, swts_snoc] at h
        omega
      omega
    · have h6 : (stailB m s).length = 0 := by unfold stailB; rw [if_neg e6]; rfl
      have h7 : DSch.weights (s.parts.take s.words.length) ≤ DSch.weights s.parts := swts_take _ _
      omega
  termination_by m _ => (m, 1, 0)
theorem sword_len : ∀ (m : Nat) (s : DSch) (i : Nat), i ≤ s.words.length → SF m s → (swordB m s i).length ≤ 100 * DSch.weights (s.parts.take i) + 30 * i
  | m, s, 0, _, _ => by simp [swordB]
  | m, s, i + 1, hi, hf => by
    have h1 := sword_len m s i (by omega) hf
    have hlt : i < s.words.length := hi
    have hx := hf.w12 _ (List.getElem_mem hlt)
    have hn := numB_length_le s.words[i].length (by omega)
    rw [swordB_succ, getD_at hlt, List.length_append, List.length_append, List.length_append]
    by_cases e5 : s.kind = 5
    · have hpl := (hf.k5 e5).1
      have hlp : i < s.parts.length := by omega
      have hm := List.getElem_mem hlp
      have h3 := bytesS_len m s.parts[i] (hf.parts _ hm)
      rw [if_pos e5, getD_at hlp, List.take_succ_eq_append_getElem hlp, swts_snoc]
      omega
    · have h4 : DSch.weights (s.parts.take i) ≤ DSch.weights (s.parts.take (i + 1)) := by
        rw [show s.parts.take i = (s.parts.take (i + 1)).take i by rw [List.take_take, Nat.min_eq_left (by omega)]]
        exact swts_take _ _
      rw [if_neg e5]
      simp only [List.length_nil]
      omega
  termination_by m _ i => (m, 2, i)
end
end Go.Proofs.YtbcabejdchkpmaaDoor

namespace Go.Proofs.YtbcabejdchkpmaaDoor
open Go.RowKit
section
set_option maxRecDepth 200000
set_option maxHeartbeats 16000000
theorem skind_toNat {s : DSch} (h : 1 ≤ s.kind ∧ s.kind ≤ 6) : ((skindB s).toNat : Int) = s.kind := by
  unfold skindB
  rw [UInt8.toNat_ofNat_of_lt' (by show s.kind.toNat < 256; omega)]; omega
theorem schWrite_w (m : Nat) : ∀ (s : DSch) {S : St} {k : Nat} {bs : List UInt8} (hr : rightS m s = true) (ho : okS s) (hw : s.weight ≤ 100000) (hk : k < S.next) (h : WAt k bs S) (hb : bs.length + 200 * s.weight ≤ 1000000000),
    DCalls Tryd.prog 58 [.loc k 0, encS s] S fun d T => d = undefD ∧ WAt k (bs ++ bytesS m s) T ∧ WFr k S T := by
  induction m with
  | zero => intro s S k bs hr; cases hr
  | succ m ih =>
    intro s S k bs hr ho hw hk h hb
    have hf := SF.of hr
    have hp := (okS_eq s).1 ho
    have hwe := s.weight_eq
    have hkk := hf.kind
    have hnw := hf.nw
    have hhl := shead_len hf
    have wk : IntKind.u8.wrap s.kind = ((skindB s).toNat : Int) := by rw [skind_toNat hkk, IntKind.wrap_u8]; omega
    refine dcalls_inline mixed Tryd.func58 rfl (fun _ _ => by kernel_rfl) (rs := []) rfl (by kernel_rfl) (fun hS => ?_)
    (simp (disch := first | decide | omega | (simp only [nx]; first | done | omega)) only [go_sem]; (repeat with_reducible refine aI ?_))
    obtain ⟨S1, hS1e⟩ : ∃ S1, S.add (.box 53 (encS s).cells) = S1 := ⟨_, rfl⟩
    have hS1 : S1.WF := by rw [← hS1e]; exact hS.add _
    have hnS : S1.next = S.next + 1 := by rw [← hS1e]; rfl
    have tS : S1.ob S.next = some (.box 53 [.v (.int .i64 s.kind), .sl .no (s.words.map strD), .sl .no (s.parts.map encS)]) := by rw [← hS1e, encS_eq]; exact add_eq
    have hFS1 : WFr k S S1 := by rw [← hS1e]; exact WFr.of_keep (Nat.le_succ _) (add_keep hS _)
    have hW : WAt k bs S1 := by rw [← hS1e]; exact h.add hS _
    rw [hS1e]
    clear hS1e
    (simp (disch := first | decide | omega | (simp only [nx]; first | done | omega)) only [go_sem, tS, cv_i64u8, wk]; (repeat with_reducible refine aI ?_))
    refine (byte_w (skindB s) (k := k) (by omega) hW (by omega)).wf.mono ?_
    rintro _ T0 ⟨⟨rfl, hW0, hF0⟩, hT0⟩
    have t0 := hF0.box S.next _ _ (by omega) tS
    have hn0 := hF0.next
    have hFS := hFS1.trans hF0
    by_cases e4 : s.kind = 4
    · have kk4 : (s.kind == 4) = true := by simp; omega
      have kk5 : (s.kind == 5) = false := by simp; omega
      have kk6 : (s.kind == 6) = false := by simp; omega
      have e5 : ¬ s.kind = 5 := by omega
      have e6 : ¬ s.kind = 6 := by omega
      have hnu : IsU64 s.words.length := by unfold IsU64; omega
      have hhe : sheadB s = [skindB s] ++ numB s.words.length := by unfold sheadB; rw [if_pos (by omega)]; rfl
      (simp (disch := first | decide | omega | (simp only [nx]; first | done | omega)) only [go_sem, t0, kk4, kk5, cv_i64u64, wrap_u64 s.words.length hnu]; (repeat with_reducible refine aI ?_))
      refine (number_w s.words.length hnu (k := k) (by omega) hW0 (by simp; omega)).wf.mono ?_
      rintro _ T1 ⟨⟨rfl, hW1, hF1⟩, hT1⟩
      have t1 := hF1.box S.next _ _ (by omega) t0
      have hn1 := hF1.next
      (simp (disch := first | decide | omega | (simp only [nx]; first | done | omega)) only [go_sem, t1]; (repeat with_reducible refine aI ?_))
      refine dloop_up (fun t => List.contains [4, 5, 28, 29, 30, 31, 32, 33, 34, 35, 36, 37, 38, 39, 40, 41, 42, 43, 44, 45, 46] t) (by kernel_rfl) (by exact hT1) s.words.length (fun i g T => i ≤ s.words.length ∧ g 28 = .v (.int .i64 ((i : Nat) : Int)) ∧ WAt k (bs ++ sheadB s ++ swordB m s i) T ∧ WFr k S T ∧ T.ob S.next = some (.box 53 [.v (.int .i64 s.kind), .sl .no (s.words.map strD), .sl .no (s.parts.map encS)]) ∧ S1.next ≤ T.next)
        ⟨by omega, by (first | (simp (disch := first | decide | omega | (simp only [nx]; first | done | omega)) only [go_sem]; first | done | rfl) | rfl), by rw [show swordB m s 0 = [] from rfl, List.append_nil, hhe]; simpa [List.append_assoc] using hW1, hFS.trans hF1, t1, by omega⟩ ?_
      rintro i g T hT hg ⟨le, q28, hWi, hFi, ti, hni⟩
      (have q0 := hg 0 rfl; have q3 := hg 3 rfl; have q26 := hg 26 rfl; have q27 := hg 27 rfl; simp (disch := first | decide | omega | (simp only [nx]; first | done | omega)) only [go_sem] at q0 q3 q26 q27; clear hg)
      have hsl := sword_len m s i le hf
      have hst := swts_take s.parts i
      by_cases hi : i < s.words.length
      · have b1 : decide ((i : Int) < (s.words.length : Int)) = true := by simp; omega
        have w1 : IntKind.i64.wrap ((i : Int) + 1) = ((i + 1 : Nat) : Int) := IntWalk.i64_in _ ⟨by omega, by omega⟩
        have hx12 := hf.w12 _ (List.getElem_mem hi)
        have hxn := numB_length_le s.words[i].length (by omega)
        have hsb : (strB s.words[i]).data.toList = s.words[i] := by simp [strB]
        have hgd := getD_map strD s.words i hi
        have hws := swordB_succ m s i
        rw [getD_at hi] at hws
        (simp (disch := first | decide | omega | (simp only [nx]; first | done | omega)) only [go_sem, q28, q0, q3, q26, q27, ti, b1, hgd, strD, sv]; (repeat with_reducible refine aI ?_))
        refine (text_w (strB s.words[i]) (k := k) (by omega) hWi (by rw [hsb]; simp only [List.length_append]; omega)).wf.mono ?_
        rintro _ T2 ⟨⟨rfl, hW2, hF2⟩, hT2⟩
        rw [hsb] at hW2
        have t2 := hF2.box S.next _ _ (by omega) ti
        have hn2 := hF2.next
        (simp (disch := first | decide | omega | (simp only [nx]; first | done | omega)) only [go_sem, q0, q3, q26, q27, t2, kk5]; (repeat with_reducible refine aI ?_))
        (simp (disch := first | decide | omega | (simp only [nx]; first | done | omega)) only [go_sem, q28, w1]; (repeat with_reducible refine aI ?_))
        refine ⟨by omega, _, fun _ _ h => h, by omega, by (first | (simp (disch := first | decide | omega | (simp only [nx]; first | done | omega)) only [go_sem]; first | done | rfl) | rfl), ?_, hFi.trans hF2, t2, by show S1.next ≤ T2.next; omega⟩
        rw [hws, if_neg e5]
        simpa [List.append_assoc] using hW2
      · have b1 : decide ((i : Int) < (s.words.length : Int)) = false := by simp; omega
        have hie : i = s.words.length := by omega
        subst hie
        (simp (disch := first | decide | omega | (simp only [nx]; first | done | omega)) only [go_sem, q28, q0, q3, q26, q27, ti, b1, kk6]; (repeat with_reducible refine aI ?_))
        refine ⟨?_, hFi⟩
        rw [bytesS_succ, stailB, if_neg e6, List.append_nil]
        simpa [List.append_assoc] using hWi
    by_cases e5 : s.kind = 5
    · have kk4 : (s.kind == 4) = false := by simp; omega
      have kk5 : (s.kind == 5) = true := by simp; omega
      have kk6 : (s.kind == 6) = false := by simp; omega
      have e4 : ¬ s.kind = 4 := by omega
      have e6 : ¬ s.kind = 6 := by omega
      have hnu : IsU64 s.words.length := by unfold IsU64; omega
      have hhe : sheadB s = [skindB s] ++ numB s.words.length := by unfold sheadB; rw [if_pos (by omega)]; rfl
      (simp (disch := first | decide | omega | (simp only [nx]; first | done | omega)) only [go_sem, t0, kk4, kk5, cv_i64u64, wrap_u64 s.words.length hnu]; (repeat with_reducible refine aI ?_))
      refine (number_w s.words.length hnu (k := k) (by omega) hW0 (by simp; omega)).wf.mono ?_
      rintro _ T1 ⟨⟨rfl, hW1, hF1⟩, hT1⟩
      have t1 := hF1.box S.next _ _ (by omega) t0
      have hn1 := hF1.next
      (simp (disch := first | decide | omega | (simp only [nx]; first | done | omega)) only [go_sem, t1]; (repeat with_reducible refine aI ?_))
      refine dloop_up (fun t => List.contains [4, 5, 28, 29, 30, 31, 32, 33, 34, 35, 36, 37, 38, 39, 40, 41, 42, 43, 44, 45, 46] t) (by kernel_rfl) (by exact hT1) s.words.length (fun i g T => i ≤ s.words.length ∧ g 28 = .v (.int .i64 ((i : Nat) : Int)) ∧ WAt k (bs ++ sheadB s ++ swordB m s i) T ∧ WFr k S T ∧ T.ob S.next = some (.box 53 [.v (.int .i64 s.kind), .sl .no (s.words.map strD), .sl .no (s.parts.map encS)]) ∧ S1.next ≤ T.next)
        ⟨by omega, by (first | (simp (disch := first | decide | omega | (simp only [nx]; first | done | omega)) only [go_sem]; first | done | rfl) | rfl), by rw [show swordB m s 0 = [] from rfl, List.append_nil, hhe]; simpa [List.append_assoc] using hW1, hFS.trans hF1, t1, by omega⟩ ?_
      rintro i g T hT hg ⟨le, q28, hWi, hFi, ti, hni⟩
      (have q0 := hg 0 rfl; have q3 := hg 3 rfl; have q26 := hg 26 rfl; have q27 := hg 27 rfl; simp (disch := first | decide | omega | (simp only [nx]; first | done | omega)) only [go_sem] at q0 q3 q26 q27; clear hg)
      have hsl := sword_len m s i le hf
      have hst := swts_take s.parts i
      by_cases hi : i < s.words.length
      · have b1 : decide ((i : Int) < (s.words.length : Int)) = true := by simp; omega
        have w1 : IntKind.i64.wrap ((i : Int) + 1) = ((i + 1 : Nat) : Int) := IntWalk.i64_in _ ⟨by omega, by omega⟩
        have hx12 := hf.w12 _ (List.getElem_mem hi)
        have hxn := numB_length_le s.words[i].length (by omega)
        have hsb : (strB s.words[i]).data.toList = s.words[i] := by simp [strB]
        have hgd := getD_map strD s.words i hi
        have hws := swordB_succ m s i
        rw [getD_at hi] at hws
        (simp (disch := first | decide | omega | (simp only [nx]; first | done | omega)) only [go_sem, q28, q0, q3, q26, q27, ti, b1, hgd, strD, sv]; (repeat with_reducible refine aI ?_))
        refine (text_w (strB s.words[i]) (k := k) (by omega) hWi (by rw [hsb]; simp only [List.length_append]; omega)).wf.mono ?_
        rintro _ T2 ⟨⟨rfl, hW2, hF2⟩, hT2⟩
        rw [hsb] at hW2
        have t2 := hF2.box S.next _ _ (by omega) ti
        have hn2 := hF2.next
        (simp (disch := first | decide | omega | (simp only [nx]; first | done | omega)) only [go_sem, q0, q3, q26, q27, t2, kk5]; (repeat with_reducible refine aI ?_))
        have hpl := (hf.k5 e5).1
        have hlp : i < s.parts.length := by omega
        have hm := List.getElem_mem hlp
        have hwp := DSch.weight_part hm
        have hst2 := swts_take s.parts (i + 1)
        rw [List.take_succ_eq_append_getElem hlp, swts_snoc] at hst2
        (simp (disch := first | decide | omega | (simp only [nx]; first | done | omega)) only [go_sem, q0, q3, q26, q27, t2, hlp]; (repeat with_reducible refine aI ?_))
        refine (ih s.parts[i] (hf.parts _ hm) (hp.2.2.2.2 _ hm) (by omega) (k := k) (by omega) hW2 (by simp only [List.length_append]; omega)).wf.mono ?_
        rintro _ T3 ⟨⟨rfl, hW3, hF3⟩, hT3⟩
        have t3 := hF3.box S.next _ _ (by omega) t2
        have hn3 := hF3.next
        (simp (disch := first | decide | omega | (simp only [nx]; first | done | omega)) only [go_sem, q28, w1]; (repeat with_reducible refine aI ?_))
        refine ⟨by omega, _, fun _ _ h => h, by omega, by (first | (simp (disch := first | decide | omega | (simp only [nx]; first | done | omega)) only [go_sem]; first | done | rfl) | rfl), ?_, (hFi.trans hF2).trans hF3, t3, by show S1.next ≤ T3.next; omega⟩
        rw [hws, if_pos e5, getD_at hlp]
        simpa [List.append_assoc] using hW3
      · have b1 : decide ((i : Int) < (s.words.length : Int)) = false := by simp; omega
        have hie : i = s.words.length := by omega
        subst hie
        (simp (disch := first | decide | omega | (simp only [nx]; first | done | omega)) only [go_sem, q28, q0, q3, q26, q27, ti, b1, kk6]; (repeat with_reducible refine aI ?_))
        refine ⟨?_, hFi⟩
        rw [bytesS_succ, stailB, if_neg e6, List.append_nil]
        simpa [List.append_assoc] using hWi
    by_cases e6 : s.kind = 6
    · have kk4 : (s.kind == 4) = false := by simp; omega
      have kk5 : (s.kind == 5) = false := by simp; omega
      have kk6 : (s.kind == 6) = true := by simp; omega
      have e4 : ¬ s.kind = 4 := by omega
      have e5 : ¬ s.kind = 5 := by omega
      have hhe : sheadB s = [skindB s] := by unfold sheadB; rw [if_neg (by omega)]
      (simp (disch := first | decide | omega | (simp only [nx]; first | done | omega)) only [go_sem, t0, kk4, kk5]; (repeat with_reducible refine aI ?_))
      refine dloop_up (fun t => List.contains [4, 5, 28, 29, 30, 31, 32, 33, 34, 35, 36, 37, 38, 39, 40, 41, 42, 43, 44, 45, 46] t) (by kernel_rfl) (by exact hT0) s.words.length (fun i g T => i ≤ s.words.length ∧ g 28 = .v (.int .i64 ((i : Nat) : Int)) ∧ WAt k (bs ++ sheadB s ++ swordB m s i) T ∧ WFr k S T ∧ T.ob S.next = some (.box 53 [.v (.int .i64 s.kind), .sl .no (s.words.map strD), .sl .no (s.parts.map encS)]) ∧ S1.next ≤ T.next)
        ⟨by omega, by (first | (simp (disch := first | decide | omega | (simp only [nx]; first | done | omega)) only [go_sem]; first | done | rfl) | rfl), by rw [show swordB m s 0 = [] from rfl, List.append_nil, hhe]; simpa [List.append_assoc] using hW0, hFS, t0, by omega⟩ ?_
      rintro i g T hT hg ⟨le, q28, hWi, hFi, ti, hni⟩
      (have q0 := hg 0 rfl; have q3 := hg 3 rfl; have q26 := hg 26 rfl; have q27 := hg 27 rfl; simp (disch := first | decide | omega | (simp only [nx]; first | done | omega)) only [go_sem] at q0 q3 q26 q27; clear hg)
      have hsl := sword_len m s i le hf
      have hst := swts_take s.parts i
      by_cases hi : i < s.words.length
      · have b1 : decide ((i : Int) < (s.words.length : Int)) = true := by simp; omega
        have w1 : IntKind.i64.wrap ((i : Int) + 1) = ((i + 1 : Nat) : Int) := IntWalk.i64_in _ ⟨by omega, by omega⟩
        have hx12 := hf.w12 _ (List.getElem_mem hi)
        have hxn := numB_length_le s.words[i].length (by omega)
        have hsb : (strB s.words[i]).data.toList = s.words[i] := by simp [strB]
        have hgd := getD_map strD s.words i hi
        have hws := swordB_succ m s i
        rw [getD_at hi] at hws
        (simp (disch := first | decide | omega | (simp only [nx]; first | done | omega)) only [go_sem, q28, q0, q3, q26, q27, ti, b1, hgd, strD, sv]; (repeat with_reducible refine aI ?_))
        refine (text_w (strB s.words[i]) (k := k) (by omega) hWi (by rw [hsb]; simp only [List.length_append]; omega)).wf.mono ?_
        rintro _ T2 ⟨⟨rfl, hW2, hF2⟩, hT2⟩
        rw [hsb] at hW2
        have t2 := hF2.box S.next _ _ (by omega) ti
        have hn2 := hF2.next
        (simp (disch := first | decide | omega | (simp only [nx]; first | done | omega)) only [go_sem, q0, q3, q26, q27, t2, kk5]; (repeat with_reducible refine aI ?_))
        (simp (disch := first | decide | omega | (simp only [nx]; first | done | omega)) only [go_sem, q28, w1]; (repeat with_reducible refine aI ?_))
        refine ⟨by omega, _, fun _ _ h => h, by omega, by (first | (simp (disch := first | decide | omega | (simp only [nx]; first | done | omega)) only [go_sem]; first | done | rfl) | rfl), ?_, hFi.trans hF2, t2, by show S1.next ≤ T2.next; omega⟩
        rw [hws, if_neg e5]
        simpa [List.append_assoc] using hW2
      · have b1 : decide ((i : Int) < (s.words.length : Int)) = false := by simp; omega
        have hie : i = s.words.length := by omega
        subst hie
        (simp (disch := first | decide | omega | (simp only [nx]; first | done | omega)) only [go_sem, q28, q0, q3, q26, q27, ti, b1, kk6]; (repeat with_reducible refine aI ?_))
        have hp1 := hf.k6 e6
        have hlp : 0 < s.parts.length := by omega
        have hm := List.getElem_mem hlp
        have hwp := DSch.weight_part hm
        have hsw0 : (swordB m s s.words.length).length = 0 := by rw [hf.nowords (by omega) (by omega)]; rfl
        (simp (disch := first | decide | omega | (simp only [nx]; first | done | omega)) only [go_sem, hlp]; (repeat with_reducible refine aI ?_))
        refine (ih s.parts[0] (hf.parts _ hm) (hp.2.2.2.2 _ hm) (by omega) (k := k) (by omega) hWi (by simp only [List.length_append]; omega)).wf.mono ?_
        rintro _ T2 ⟨⟨rfl, hW2, hF2⟩, hT2⟩
        (simp (disch := first | decide | omega | (simp only [nx]; first | done | omega)) only [go_sem]; (repeat with_reducible refine aI ?_))
        refine ⟨?_, hFi.trans hF2⟩
        rw [bytesS_succ, stailB, if_pos e6, getD_at hlp]
        simpa [List.append_assoc] using hW2
    have kk4 : (s.kind == 4) = false := by simp; omega
    have kk5 : (s.kind == 5) = false := by simp; omega
    have kk6 : (s.kind == 6) = false := by simp; omega
    have e4 : ¬ s.kind = 4 := by omega
    have e5 : ¬ s.kind = 5 := by omega
    have e6 : ¬ s.kind = 6 := by omega
    have hhe : sheadB s = [skindB s] := by unfold sheadB; rw [if_neg (by omega)]
    (simp (disch := first | decide | omega | (simp only [nx]; first | done | omega)) only [go_sem, t0, kk4, kk5]; (repeat with_reducible refine aI ?_))
    refine dloop_up (fun t => List.contains [4, 5, 28, 29, 30, 31, 32, 33, 34, 35, 36, 37, 38, 39, 40, 41, 42, 43, 44, 45, 46] t) (by kernel_rfl) (by exact hT0) s.words.length (fun i g T => i ≤ s.words.length ∧ g 28 = .v (.int .i64 ((i : Nat) : Int)) ∧ WAt k (bs ++ sheadB s ++ swordB m s i) T ∧ WFr k S T ∧ T.ob S.next = some (.box 53 [.v (.int .i64 s.kind), .sl .no (s.words.map strD), .sl .no (s.parts.map encS)]) ∧ S1.next ≤ T.next)
      ⟨by omega, by (first | (simp (disch := first | decide | omega | (simp only [nx]; first | done | omega)) only [go_sem]; first | done | rfl) | rfl), by rw [show swordB m s 0 = [] from rfl, List.append_nil, hhe]; simpa [List.append_assoc] using hW0, hFS, t0, by omega⟩ ?_
    rintro i g T hT hg ⟨le, q28, hWi, hFi, ti, hni⟩
    (have q0 := hg 0 rfl; have q3 := hg 3 rfl; have q26 := hg 26 rfl; have q27 := hg 27 rfl; simp (disch := first | decide | omega | (simp only [nx]; first | done | omega)) only [go_sem] at q0 q3 q26 q27; clear hg)
    have hsl := sword_len m s i le hf
    have hst := swts_take s.parts i
    by_cases hi : i < s.words.length
    · have b1 : decide ((i : Int) < (s.words.length : Int)) = true := by simp; omega
      have w1 : IntKind.i64.wrap ((i : Int) + 1) = ((i + 1 : Nat) : Int) := IntWalk.i64_in _ ⟨by omega, by omega⟩
      have hx12 := hf.w12 _ (List.getElem_mem hi)
      have hxn := numB_length_le s.words[i].length (by omega)
      have hsb : (strB s.words[i]).data.toList = s.words[i] := by simp [strB]
      have hgd := getD_map strD s.words i hi
      have hws := swordB_succ m s i
      rw [getD_at hi] at hws
      (simp (disch := first | decide | omega | (simp only [nx]; first | done | omega)) only [go_sem, q28, q0, q3, q26, q27, ti, b1, hgd, strD, sv]; (repeat with_reducible refine aI ?_))
      refine (text_w (strB s.words[i]) (k := k) (by omega) hWi (by rw [hsb]; simp only [List.length_append]; omega)).wf.mono ?_
      rintro _ T2 ⟨⟨rfl, hW2, hF2⟩, hT2⟩
      rw [hsb] at hW2
      have t2 := hF2.box S.next _ _ (by omega) ti
      have hn2 := hF2.next
      (simp (disch := first | decide | omega | (simp only [nx]; first | done | omega)) only [go_sem, q0, q3, q26, q27, t2, kk5]; (repeat with_reducible refine aI ?_))
      (simp (disch := first | decide | omega | (simp only [nx]; first | done | omega)) only [go_sem, q28, w1]; (repeat with_reducible refine aI ?_))
      refine ⟨by omega, _, fun _ _ h => h, by omega, by (first | (simp (disch := first | decide | omega | (simp only [nx]; first | done | omega)) only [go_sem]; first | done | rfl) | rfl), ?_, hFi.trans hF2, t2, by show S1.next ≤ T2.next; omega⟩
      rw [hws, if_neg e5]
      simpa [List.append_assoc] using hW2
    · have b1 : decide ((i : Int) < (s.words.length : Int)) = false := by simp; omega
      have hie : i = s.words.length := by omega
      subst hie
      (simp (disch := first | decide | omega | (simp only [nx]; first | done | omega)) only [go_sem, q28, q0, q3, q26, q27, ti, b1, kk6]; (repeat with_reducible refine aI ?_))
      refine ⟨?_, hFi⟩
      rw [bytesS_succ, stailB, if_neg e6, List.append_nil]
      simpa [List.append_assoc] using hWi
def bytesOfS (s : DSch) : List UInt8 := bytesS 5 s
def encResS (s : DSch) : D :=
  if rightS 5 s = false then .tup [.sl .no [], errO 1]
  else if 4096 < (bytesOfS s).length then .tup [.sl .no [], errO 3]
  else .tup [.sl .no ((bytesOfS s).map bD), errO 0]
theorem encResS_closed (s : DSch) : (encResS s).closed := by
  have h := closed_bDs (bytesOfS s)
  unfold encResS errO
  split
  · simp [D.closed, D.all, allL, Own.all]
  · split
    · simp [D.closed, D.all, allL, Own.all]
    · simp only [D.closed, D.all, allL, Own.all, if_true] at h ⊢
      exact ⟨⟨trivial, h.2⟩, trivial, trivial⟩
theorem encodeS_d (s : DSch) (ho : okS s) (hw : s.weight ≤ 100000) : DPure Tryd.prog 25 [encS s] (encResS s) := by
  refine dpure_of_dwp mixed Tryd.func25 rfl (fun _ _ => by kernel_rfl) (rs := [.tmp 2, .tmp 3]) rfl (by kernel_rfl) (encResS_closed s) (fun S hS => ?_)
  (simp (disch := first | decide | omega | (simp only [nx]; first | done | omega)) only [go_sem]; (repeat with_reducible refine aI ?_))
  refine DCalls.of_pure (schRight_d s ho) ?_
  cases hr : rightS 5 s
  · (simp (disch := first | decide | omega | (simp only [nx]; first | done | omega)) only [go_sem]; (repeat with_reducible refine aI ?_))
    refine ⟨?_, (by (repeat' first | assumption | exact St.Sub.refl _ | exact RowOk.sub (by assumption) (by assumption) | refine St.Sub.trans ?_ (RowOk.sub (by assumption) (by assumption)) | refine St.Sub.add ?_ ?_ _ | refine St.Sub.set ?_ ?_ ?_ _ | refine St.Sub.keep ?_ ?_ | refine St.WF.leave ?_ _ | refine St.WF.add ?_ _ | refine St.WF.set ?_ ?_ _ | refine St.WF.grow ?_ _ _ _ | refine St.WF.keep ?_ ?_ | (first | omega | (simp only [RowOk.lo, nx]; first | done | omega))))⟩
    rw [encResS, if_pos hr]
    rfl
  · (simp (disch := first | decide | omega | (simp only [nx]; first | done | omega)) only [go_sem]; (repeat with_reducible refine aI ?_))
    have hbl := bytesS_len 5 s hr
    have hbl' : (bytesOfS s).length ≤ 100 * s.weight := hbl
    refine (schWrite_w 5 s hr ho hw (k := S.next + 1) (bs := []) (by show S.next + 1 < S.next + 1 + 1; omega) ⟨.full, by (first | (simp (disch := first | decide | omega | (simp only [nx]; first | done | omega)) only [go_sem]; first | done | rfl) | rfl), .inl ⟨rfl, rfl⟩⟩ (by simp; omega)).wf.mono ?_
    rintro _ T ⟨⟨rfl, hW, hF⟩, hT⟩
    rw [List.nil_append] at hW
    (simp (disch := first | decide | omega | (simp only [nx]; first | done | omega)) only [go_sem]; (repeat with_reducible refine aI ?_))
    refine (out_w hW (by omega)).wf.mono ?_
    rintro _ T1 ⟨⟨ow, rfl, hW1, hF1⟩, hT1⟩
    have hsub : S.Sub T1 := by
      have h1 := hF.trans hF1
      have hn := h1.next
      simp only [add_next] at hn
      exact ⟨by omega, fun j o' hj => h1.ob j o' (.inl (by have := hS.lt hj; omega)) (by have := hS.lt hj; rw [ob_skip (by simp only [add_next]; omega), ob_skip (by omega)]; exact hj)⟩
    by_cases h4 : 4096 < (bytesOfS s).length
    · have b1 : decide ((4096 : Int) < ((bytesS 5 s).length : Int)) = true := decide_eq_true (by have : 4096 < (bytesS 5 s).length := h4; omega)
      (simp (disch := first | decide | omega | (simp only [nx]; first | done | omega)) only [go_sem, b1]; (repeat with_reducible refine aI ?_))
      refine ⟨?_, hsub⟩
      rw [encResS, if_neg (by rw [hr]; simp), if_pos h4]
      rfl
    · have b1 : decide ((4096 : Int) < ((bytesS 5 s).length : Int)) = false := decide_eq_false (by have : ¬ 4096 < (bytesS 5 s).length := h4; omega)
      (simp (disch := first | decide | omega | (simp only [nx]; first | done | omega)) only [go_sem, b1]; (repeat with_reducible refine aI ?_))
      refine ⟨?_, hsub⟩
      rw [encResS, if_neg (by rw [hr]; simp), if_neg h4]
      simp only [D.frz, frzL, frz_bDs]
      rfl
theorem refSchB_d (m : Nat) : ∀ (s : DSch), rightS m s = true → okS s → s.weight ≤ 2000 → DPure Tryd.prog 28 [encS s] (.sl .no ((bytesS m s).map bD)) := by
  induction m with
  | zero => intro s hr; cases hr
  | succ m ih =>
    intro s hr ho hw
    refine dpure_newB fun S => ?_
    have hf := SF.of hr
    have hp := (okS_eq s).1 ho
    have hwe := s.weight_eq
    have hkk := hf.kind
    have hnw := hf.nw
    have hhl := shead_len hf
    have wk : IntKind.u8.wrap s.kind = ((skindB s).toNat : Int) := by rw [skind_toNat hkk, IntKind.wrap_u8]; omega
    refine dcalls_inline mixed Tryd.func28 rfl (fun _ _ => by kernel_rfl) (rs := [.tmp 2]) rfl (by kernel_rfl) (fun hS => ?_)
    (simp (disch := first | decide | omega | (simp only [nx]; first | done | omega)) only [go_sem]; (repeat with_reducible refine aI ?_))
    obtain ⟨S1, hS1e⟩ : ∃ S1, S.add (.box 53 (encS s).cells) = S1 := ⟨_, rfl⟩
    have hS1 : S1.WF := by rw [← hS1e]; exact hS.add _
    have hnS : S1.next = S.next + 1 := by rw [← hS1e]; rfl
    have tS : S1.ob S.next = some (.box 53 [.v (.int .i64 s.kind), .sl .no (s.words.map strD), .sl .no (s.parts.map encS)]) := by rw [← hS1e, encS_eq]; exact add_eq
    have hkS : ∀ j ob, S.ob j = some ob → S1.ob j = some ob := by rw [← hS1e]; exact add_keep hS _
    rw [hS1e]
    clear hS1e
    (simp (disch := first | decide | omega | (simp only [nx]; first | done | omega)) only [go_sem, tS, cv_i64u8, wk]; (repeat with_reducible refine aI ?_))
    by_cases e4 : s.kind = 4
    · have kk4 : (s.kind == 4) = true := by simp; omega
      have kk5 : (s.kind == 5) = false := by simp; omega
      have kk6 : (s.kind == 6) = false := by simp; omega
      have e5 : ¬ s.kind = 5 := by omega
      have e6 : ¬ s.kind = 6 := by omega
      have hhe : sheadB s = [skindB s] ++ [b8 s.words.length] := by unfold sheadB; rw [if_pos (by omega), numB_lt _ (by omega)]; rfl
      have w8 : IntKind.u8.wrap (s.words.length : Int) = (s.words.length : Int) := by rw [wrap_u8]; omega
      (simp (disch := first | decide | omega | (simp only [nx]; first | done | omega)) only [go_sem, tS, kk4, kk5, cv_i64u8, w8]; (repeat with_reducible refine aI ?_))
      rw [bD1 s.words.length (by omega)]
      refine dapp_bytes2 (bs := [skindB s]) (xs := [b8 s.words.length]) (.inl rfl) (by simp) ?_
      have hN := NewB.grow (S := S1) (T := S1) (own := .full) (own2 := .full) (bs := [skindB s]) (xs := [b8 s.words.length]) hS1 (.inl rfl) (Nat.le_refl _) (fun _ _ h => h)
      have hg0 := hS1.grow .full 5 ([skindB s].length + [b8 s.words.length].length)
      rw [← hhe] at hN ⊢
      revert hN hg0
      generalize St.grow S1 .full 5 ([skindB s].length + [b8 s.words.length].length) = T0
      intro hN hg0
      (simp (disch := first | decide | omega | (simp only [nx]; first | done | omega)) only [go_sem]; (repeat with_reducible refine aI ?_))
      refine dloop_up (fun t => List.contains [3, 4, 24, 25, 26, 27, 28, 29, 30, 31, 32, 33, 34, 35, 36, 37, 38, 39, 40, 41, 42, 43, 44, 45, 46, 47, 48, 49, 50] t) (by kernel_rfl) (by exact hg0) s.words.length (fun i g T => i ≤ s.words.length ∧ g 4 = .v (.int .i64 ((i : Nat) : Int)) ∧ NewB S1 T (g 3) (sheadB s ++ swordB m s i))
        ⟨by omega, by (first | (simp (disch := first | decide | omega | (simp only [nx]; first | done | omega)) only [go_sem]; first | done | rfl) | rfl), by rw [show swordB m s 0 = [] from rfl, List.append_nil]; exact hN⟩ ?_
      rintro i g T hT hg ⟨le, q4, own3, q3, ho3, hT1, hT2⟩
      (have q1 := hg 1 rfl; have q2 := hg 2 rfl; simp (disch := first | decide | omega | (simp only [nx]; first | done | omega)) only [go_sem] at q1 q2; clear hg)
      have t1 := hT2 _ _ tS
      have hsl := sword_len m s i le hf
      have hst := swts_take s.parts i
      by_cases hi : i < s.words.length
      · have b1 : decide ((i : Int) < (s.words.length : Int)) = true := by simp; omega
        have w1 : IntKind.i64.wrap ((i : Int) + 1) = ((i + 1 : Nat) : Int) := IntWalk.i64_in _ ⟨by omega, by omega⟩
        have hx12 := hf.w12 _ (List.getElem_mem hi)
        have hxn := numB_length_le s.words[i].length (by omega)
        have hsb : (strB s.words[i]).data.toList = s.words[i] := by simp [strB]
        have hws := swordB_succ m s i
        rw [getD_at hi] at hws
        (simp (disch := first | decide | omega | (simp only [nx]; first | done | omega)) only [go_sem, q1, q2, q4, q3, t1, b1, hi, strD, sv, hsb]; (repeat with_reducible refine aI ?_))
        refine DCalls.of_pure (refByt_d .no s.words[i] (by omega)) ?_
        (simp (disch := first | decide | omega | (simp only [nx]; first | done | omega)) only [go_sem, q3]; (repeat with_reducible refine aI ?_))
        refine dapp_bytes2 (bs := sheadB s ++ swordB m s i) (xs := numB s.words[i].length ++ s.words[i]) (ho3.imp id fun ⟨g, h1, _, h2⟩ => ⟨g, h1, h2⟩) (by simp only [List.length_append]; omega) ?_
        have hN1 := NewB.grow (own2 := .full) (xs := numB s.words[i].length ++ s.words[i]) hS1 ho3 hT1 hT2
        have hg1 := hT.grow own3 5 ((sheadB s ++ swordB m s i).length + (numB s.words[i].length ++ s.words[i]).length)
        revert hN1 hg1
        generalize St.grow T own3 5 ((sheadB s ++ swordB m s i).length + (numB s.words[i].length ++ s.words[i]).length) = T3
        rintro ⟨own4, q3b, ho4, hT31, hT32⟩ hg1
        rw [q3b]
        have t3 := hT32 _ _ tS
        (simp (disch := first | decide | omega | (simp only [nx]; first | done | omega)) only [go_sem, q1, q2, q4, t3, kk5]; (repeat with_reducible refine aI ?_))
        (simp (disch := first | decide | omega | (simp only [nx]; first | done | omega)) only [go_sem, q4, w1]; (repeat with_reducible refine aI ?_))
        refine ⟨by omega, _, fun _ _ h => h, by omega, by (first | (simp (disch := first | decide | omega | (simp only [nx]; first | done | omega)) only [go_sem]; first | done | rfl) | rfl), ?_⟩
        have e : sheadB s ++ swordB m s (i + 1) = (sheadB s ++ swordB m s i) ++ (numB s.words[i].length ++ s.words[i]) := by rw [hws, if_neg e5]; simp only [List.append_assoc, List.append_nil]
        rw [e]
        exact ⟨own4, by (first | (simp (disch := first | decide | omega | (simp only [nx]; first | done | omega)) only [go_sem]; first | done | rfl) | rfl), ho4, hT31, hT32⟩
      · have b1 : decide ((i : Int) < (s.words.length : Int)) = false := by simp; omega
        have hie : i = s.words.length := by omega
        subst hie
        (simp (disch := first | decide | omega | (simp only [nx]; first | done | omega)) only [go_sem, q4, q1, q2, t1, b1, q3, kk6]; (repeat with_reducible refine aI ?_))
        rw [bytesS_succ, stailB, if_neg e6, List.append_nil]
        exact NewB.weak (S1 := S1) ⟨own3, rfl, ho3, hT1, hT2⟩ (by omega) hkS
    by_cases e5 : s.kind = 5
    · have kk4 : (s.kind == 4) = false := by simp; omega
      have kk5 : (s.kind == 5) = true := by simp; omega
      have kk6 : (s.kind == 6) = false := by simp; omega
      have e4 : ¬ s.kind = 4 := by omega
      have e6 : ¬ s.kind = 6 := by omega
      have hhe : sheadB s = [skindB s] ++ [b8 s.words.length] := by unfold sheadB; rw [if_pos (by omega), numB_lt _ (by omega)]; rfl
      have w8 : IntKind.u8.wrap (s.words.length : Int) = (s.words.length : Int) := by rw [wrap_u8]; omega
      (simp (disch := first | decide | omega | (simp only [nx]; first | done | omega)) only [go_sem, tS, kk4, kk5, cv_i64u8, w8]; (repeat with_reducible refine aI ?_))
      rw [bD1 s.words.length (by omega)]
      refine dapp_bytes2 (bs := [skindB s]) (xs := [b8 s.words.length]) (.inl rfl) (by simp) ?_
      have hN := NewB.grow (S := S1) (T := S1) (own := .full) (own2 := .full) (bs := [skindB s]) (xs := [b8 s.words.length]) hS1 (.inl rfl) (Nat.le_refl _) (fun _ _ h => h)
      have hg0 := hS1.grow .full 5 ([skindB s].length + [b8 s.words.length].length)
      rw [← hhe] at hN ⊢
      revert hN hg0
      generalize St.grow S1 .full 5 ([skindB s].length + [b8 s.words.length].length) = T0
      intro hN hg0
      (simp (disch := first | decide | omega | (simp only [nx]; first | done | omega)) only [go_sem]; (repeat with_reducible refine aI ?_))
      refine dloop_up (fun t => List.contains [3, 4, 24, 25, 26, 27, 28, 29, 30, 31, 32, 33, 34, 35, 36, 37, 38, 39, 40, 41, 42, 43, 44, 45, 46, 47, 48, 49, 50] t) (by kernel_rfl) (by exact hg0) s.words.length (fun i g T => i ≤ s.words.length ∧ g 4 = .v (.int .i64 ((i : Nat) : Int)) ∧ NewB S1 T (g 3) (sheadB s ++ swordB m s i))
        ⟨by omega, by (first | (simp (disch := first | decide | omega | (simp only [nx]; first | done | omega)) only [go_sem]; first | done | rfl) | rfl), by rw [show swordB m s 0 = [] from rfl, List.append_nil]; exact hN⟩ ?_
      rintro i g T hT hg ⟨le, q4, own3, q3, ho3, hT1, hT2⟩
      (have q1 := hg 1 rfl; have q2 := hg 2 rfl; simp (disch := first | decide | omega | (simp only [nx]; first | done | omega)) only [go_sem] at q1 q2; clear hg)
      have t1 := hT2 _ _ tS
      have hsl := sword_len m s i le hf
      have hst := swts_take s.parts i
      by_cases hi : i < s.words.length
      · have b1 : decide ((i : Int) < (s.words.length : Int)) = true := by simp; omega
        have w1 : IntKind.i64.wrap ((i : Int) + 1) = ((i + 1 : Nat) : Int) := IntWalk.i64_in _ ⟨by omega, by omega⟩
        have hx12 := hf.w12 _ (List.getElem_mem hi)
        have hxn := numB_length_le s.words[i].length (by omega)
        have hsb : (strB s.words[i]).data.toList = s.words[i] := by simp [strB]
        have hws := swordB_succ m s i
        rw [getD_at hi] at hws
        (simp (disch := first | decide | omega | (simp only [nx]; first | done | omega)) only [go_sem, q1, q2, q4, q3, t1, b1, hi, strD, sv, hsb]; (repeat with_reducible refine aI ?_))
        refine DCalls.of_pure (refByt_d .no s.words[i] (by omega)) ?_
        (simp (disch := first | decide | omega | (simp only [nx]; first | done | omega)) only [go_sem, q3]; (repeat with_reducible refine aI ?_))
        refine dapp_bytes2 (bs := sheadB s ++ swordB m s i) (xs := numB s.words[i].length ++ s.words[i]) (ho3.imp id fun ⟨g, h1, _, h2⟩ => ⟨g, h1, h2⟩) (by simp only [List.length_append]; omega) ?_
        have hN1 := NewB.grow (own2 := .full) (xs := numB s.words[i].length ++ s.words[i]) hS1 ho3 hT1 hT2
        have hg1 := hT.grow own3 5 ((sheadB s ++ swordB m s i).length + (numB s.words[i].length ++ s.words[i]).length)
        revert hN1 hg1
        generalize St.grow T own3 5 ((sheadB s ++ swordB m s i).length + (numB s.words[i].length ++ s.words[i]).length) = T3
        rintro ⟨own4, q3b, ho4, hT31, hT32⟩ hg1
        rw [q3b]
        have t3 := hT32 _ _ tS
        (simp (disch := first | decide | omega | (simp only [nx]; first | done | omega)) only [go_sem, q1, q2, q4, t3, kk5]; (repeat with_reducible refine aI ?_))
        have hpl := (hf.k5 e5).1
        have hlp : i < s.parts.length := by omega
        have hm := List.getElem_mem hlp
        have hwp := DSch.weight_part hm
        have hbj := bytesS_len m s.parts[i] (hf.parts _ hm)
        (simp (disch := first | decide | omega | (simp only [nx]; first | done | omega)) only [go_sem, hlp]; (repeat with_reducible refine aI ?_))
        refine DCalls.of_pure (ih s.parts[i] (hf.parts _ hm) (hp.2.2.2.2 _ hm) (by omega)) ?_
        (simp (disch := first | decide | omega | (simp only [nx]; first | done | omega)) only [go_sem]; (repeat with_reducible refine aI ?_))
        refine dapp_bytes2 (bs := (sheadB s ++ swordB m s i) ++ (numB s.words[i].length ++ s.words[i])) (xs := bytesS m s.parts[i]) (ho4.imp id fun ⟨g, h1, _, h2⟩ => ⟨g, h1, h2⟩) (by simp only [List.length_append]; omega) ?_
        have hN2 := NewB.grow (own2 := .full) (xs := bytesS m s.parts[i]) hS1 ho4 hT31 hT32
        (simp (disch := first | decide | omega | (simp only [nx]; first | done | omega)) only [go_sem, q4, w1]; (repeat with_reducible refine aI ?_))
        refine ⟨by omega, _, fun _ _ h => h, by omega, by (first | (simp (disch := first | decide | omega | (simp only [nx]; first | done | omega)) only [go_sem]; first | done | rfl) | rfl), ?_⟩
        have e : sheadB s ++ swordB m s (i + 1) = ((sheadB s ++ swordB m s i) ++ (numB s.words[i].length ++ s.words[i])) ++ bytesS m s.parts[i] := by rw [hws, if_pos e5, getD_at hlp]; simp only [List.append_assoc]
        rw [e]
        exact hN2
      · have b1 : decide ((i : Int) < (s.words.length : Int)) = false := by simp; omega
        have hie : i = s.words.length := by omega
        subst hie
        (simp (disch := first | decide | omega | (simp only [nx]; first | done | omega)) only [go_sem, q4, q1, q2, t1, b1, q3, kk6]; (repeat with_reducible refine aI ?_))
        rw [bytesS_succ, stailB, if_neg e6, List.append_nil]
        exact NewB.weak (S1 := S1) ⟨own3, rfl, ho3, hT1, hT2⟩ (by omega) hkS
    by_cases e6 : s.kind = 6
    · have kk4 : (s.kind == 4) = false := by simp; omega
      have kk5 : (s.kind == 5) = false := by simp; omega
      have kk6 : (s.kind == 6) = true := by simp; omega
      have e4 : ¬ s.kind = 4 := by omega
      have e5 : ¬ s.kind = 5 := by omega
      have hhe : sheadB s = [skindB s] := by unfold sheadB; rw [if_neg (by omega)]
      (simp (disch := first | decide | omega | (simp only [nx]; first | done | omega)) only [go_sem, tS, kk4, kk5]; (repeat with_reducible refine aI ?_))
      refine dloop_up (fun t => List.contains [3, 4, 24, 25, 26, 27, 28, 29, 30, 31, 32, 33, 34, 35, 36, 37, 38, 39, 40, 41, 42, 43, 44, 45, 46, 47, 48, 49, 50] t) (by kernel_rfl) (by exact hS1) s.words.length (fun i g T => i ≤ s.words.length ∧ g 4 = .v (.int .i64 ((i : Nat) : Int)) ∧ NewB S1 T (g 3) (sheadB s ++ swordB m s i))
        ⟨by omega, by (first | (simp (disch := first | decide | omega | (simp only [nx]; first | done | omega)) only [go_sem]; first | done | rfl) | rfl), by rw [show swordB m s 0 = [] from rfl, List.append_nil]; exact (by rw [hhe]; exact ⟨.full, by (first | (simp (disch := first | decide | omega | (simp only [nx]; first | done | omega)) only [go_sem]; first | done | rfl) | rfl), .inl rfl, Nat.le_refl _, fun _ _ h => h⟩)⟩ ?_
      rintro i g T hT hg ⟨le, q4, own3, q3, ho3, hT1, hT2⟩
      (have q1 := hg 1 rfl; have q2 := hg 2 rfl; simp (disch := first | decide | omega | (simp only [nx]; first | done | omega)) only [go_sem] at q1 q2; clear hg)
      have t1 := hT2 _ _ tS
      have hsl := sword_len m s i le hf
      have hst := swts_take s.parts i
      by_cases hi : i < s.words.length
      · have b1 : decide ((i : Int) < (s.words.length : Int)) = true := by simp; omega
        have w1 : IntKind.i64.wrap ((i : Int) + 1) = ((i + 1 : Nat) : Int) := IntWalk.i64_in _ ⟨by omega, by omega⟩
        have hx12 := hf.w12 _ (List.getElem_mem hi)
        have hxn := numB_length_le s.words[i].length (by omega)
        have hsb : (strB s.words[i]).data.toList = s.words[i] := by simp [strB]
        have hws := swordB_succ m s i
        rw [getD_at hi] at hws
        (simp (disch := first | decide | omega | (simp only [nx]; first | done | omega)) only [go_sem, q1, q2, q4, q3, t1, b1, hi, strD, sv, hsb]; (repeat with_reducible refine aI ?_))
        refine DCalls.of_pure (refByt_d .no s.words[i] (by omega)) ?_
        (simp (disch := first | decide | omega | (simp only [nx]; first | done | omega)) only [go_sem, q3]; (repeat with_reducible refine aI ?_))
        refine dapp_bytes2 (bs := sheadB s ++ swordB m s i) (xs := numB s.words[i].length ++ s.words[i]) (ho3.imp id fun ⟨g, h1, _, h2⟩ => ⟨g, h1, h2⟩) (by simp only [List.length_append]; omega) ?_
        have hN1 := NewB.grow (own2 := .full) (xs := numB s.words[i].length ++ s.words[i]) hS1 ho3 hT1 hT2
        have hg1 := hT.grow own3 5 ((sheadB s ++ swordB m s i).length + (numB s.words[i].length ++ s.words[i]).length)
        revert hN1 hg1
        generalize St.grow T own3 5 ((sheadB s ++ swordB m s i).length + (numB s.words[i].length ++ s.words[i]).length) = T3
        rintro ⟨own4, q3b, ho4, hT31, hT32⟩ hg1
        rw [q3b]
        have t3 := hT32 _ _ tS
        (simp (disch := first | decide | omega | (simp only [nx]; first | done | omega)) only [go_sem, q1, q2, q4, t3, kk5]; (repeat with_reducible refine aI ?_))
        (simp (disch := first | decide | omega | (simp only [nx]; first | done | omega)) only [go_sem, q4, w1]; (repeat with_reducible refine aI ?_))
        refine ⟨by omega, _, fun _ _ h => h, by omega, by (first | (simp (disch := first | decide | omega | (simp only [nx]; first | done | omega)) only [go_sem]; first | done | rfl) | rfl), ?_⟩
        have e : sheadB s ++ swordB m s (i + 1) = (sheadB s ++ swordB m s i) ++ (numB s.words[i].length ++ s.words[i]) := by rw [hws, if_neg e5]; simp only [List.append_assoc, List.append_nil]
        rw [e]
        exact ⟨own4, by (first | (simp (disch := first | decide | omega | (simp only [nx]; first | done | omega)) only [go_sem]; first | done | rfl) | rfl), ho4, hT31, hT32⟩
      · have b1 : decide ((i : Int) < (s.words.length : Int)) = false := by simp; omega
        have hie : i = s.words.length := by omega
        subst hie
        (simp (disch := first | decide | omega | (simp only [nx]; first | done | omega)) only [go_sem, q4, q1, q2, t1, b1, q3, kk6]; (repeat with_reducible refine aI ?_))
        have hp1 := hf.k6 e6
        have hlp : 0 < s.parts.length := by omega
        have hm := List.getElem_mem hlp
        have hwp := DSch.weight_part hm
        have hbj := bytesS_len m s.parts[0] (hf.parts _ hm)
        (simp (disch := first | decide | omega | (simp only [nx]; first | done | omega)) only [go_sem, hlp]; (repeat with_reducible refine aI ?_))
        refine DCalls.of_pure (ih s.parts[0] (hf.parts _ hm) (hp.2.2.2.2 _ hm) (by omega)) ?_
        (simp (disch := first | decide | omega | (simp only [nx]; first | done | omega)) only [go_sem]; (repeat with_reducible refine aI ?_))
        refine dapp_bytes2 (bs := sheadB s ++ swordB m s s.words.length) (xs := bytesS m s.parts[0]) (ho3.imp id fun ⟨g, h1, _, h2⟩ => ⟨g, h1, h2⟩) (by simp only [List.length_append]; omega) ?_
        have hN2 := NewB.grow (own2 := .full) (xs := bytesS m s.parts[0]) hS1 ho3 hT1 hT2
        (simp (disch := first | decide | omega | (simp only [nx]; first | done | omega)) only [go_sem]; (repeat with_reducible refine aI ?_))
        rw [bytesS_succ, stailB, if_pos e6, getD_at hlp]
        exact hN2.weak (by omega) hkS
    have kk4 : (s.kind == 4) = false := by simp; omega
    have kk5 : (s.kind == 5) = false := by simp; omega
    have kk6 : (s.kind == 6) = false := by simp; omega
    have e4 : ¬ s.kind = 4 := by omega
    have e5 : ¬ s.kind = 5 := by omega
    have e6 : ¬ s.kind = 6 := by omega
    have hhe : sheadB s = [skindB s] := by unfold sheadB; rw [if_neg (by omega)]
    (simp (disch := first | decide | omega | (simp only [nx]; first | done | omega)) only [go_sem, tS, kk4, kk5]; (repeat with_reducible refine aI ?_))
    refine dloop_up (fun t => List.contains [3, 4, 24, 25, 26, 27, 28, 29, 30, 31, 32, 33, 34, 35, 36, 37, 38, 39, 40, 41, 42, 43, 44, 45, 46, 47, 48, 49, 50] t) (by kernel_rfl) (by exact hS1) s.words.length (fun i g T => i ≤ s.words.length ∧ g 4 = .v (.int .i64 ((i : Nat) : Int)) ∧ NewB S1 T (g 3) (sheadB s ++ swordB m s i))
      ⟨by omega, by (first | (simp (disch := first | decide | omega | (simp only [nx]; first | done | omega)) only [go_sem]; first | done | rfl) | rfl), by rw [show swordB m s 0 = [] from rfl, List.append_nil]; exact (by rw [hhe]; exact ⟨.full, by (first | (simp (disch := first | decide | omega | (simp only [nx]; first | done | omega)) only [go_sem]; first | done | rfl) | rfl), .inl rfl, Nat.le_refl _, fun _ _ h => h⟩)⟩ ?_
    rintro i g T hT hg ⟨le, q4, own3, q3, ho3, hT1, hT2⟩
    (have q1 := hg 1 rfl; have q2 := hg 2 rfl; simp (disch := first | decide | omega | (simp only [nx]; first | done | omega)) only [go_sem] at q1 q2; clear hg)
    have t1 := hT2 _ _ tS
    have hsl := sword_len m s i le hf
    have hst := swts_take s.parts i
    by_cases hi : i < s.words.length
    · have b1 : decide ((i : Int) < (s.words.length : Int)) = true := by simp; omega
      have w1 : IntKind.i64.wrap ((i : Int) + 1) = ((i + 1 : Nat) : Int) := IntWalk.i64_in _ ⟨by omega, by omega⟩
      have hx12 := hf.w12 _ (List.getElem_mem hi)
      have hxn := numB_length_le s.words[i].length (by omega)
      have hsb : (strB s.words[i]).data.toList = s.words[i] := by simp [strB]
      have hws := swordB_succ m s i
      rw [getD_at hi] at hws
      (simp (disch := first | decide | omega | (simp only [nx]; first | done | omega)) only [go_sem, q1, q2, q4, q3, t1, b1, hi, strD, sv, hsb]; (repeat with_reducible refine aI ?_))
      refine DCalls.of_pure (refByt_d .no s.words[i] (by omega)) ?_
      (simp (disch := first | decide | omega | (simp only [nx]; first | done | omega)) only [go_sem, q3]; (repeat with_reducible refine aI ?_))
      refine dapp_bytes2 (bs := sheadB s ++ swordB m s i) (xs := numB s.words[i].length ++ s.words[i]) (ho3.imp id fun ⟨g, h1, _, h2⟩ => ⟨g, h1, h2⟩) (by simp only [List.length_append]; omega) ?_
      have hN1 := NewB.grow (own2 := .full) (xs := numB s.words[i].length ++ s.words[i]) hS1 ho3 hT1 hT2
      have hg1 := hT.grow own3 5 ((sheadB s ++ swordB m s i).length + (numB s.words[i].length ++ s.words[i]).length)
      revert hN1 hg1
      generalize St.grow T own3 5 ((sheadB s ++ swordB m s i).length + (numB s.words[i].length ++ s.words[i]).length) = T3
      rintro ⟨own4, q3b, ho4, hT31, hT32⟩ hg1
      rw [q3b]
      have t3 := hT32 _ _ tS
      (simp (disch := first | decide | omega | (simp only [nx]; first | done | omega)) only [go_sem, q1, q2, q4, t3, kk5]; (repeat with_reducible refine aI ?_))
      (simp (disch := first | decide | omega | (simp only [nx]; first | done | omega)) only [go_sem, q4, w1]; (repeat with_reducible refine aI ?_))
      refine ⟨by omega, _, fun _ _ h => h, by omega, by (first | (simp (disch := first | decide | omega | (simp only [nx]; first | done | omega)) only [go_sem]; first | done | rfl) | rfl), ?_⟩
      have e : sheadB s ++ swordB m s (i + 1) = (sheadB s ++ swordB m s i) ++ (numB s.words[i].length ++ s.words[i]) := by rw [hws, if_neg e5]; simp only [List.append_assoc, List.append_nil]
      rw [e]
      exact ⟨own4, by (first | (simp (disch := first | decide | omega | (simp only [nx]; first | done | omega)) only [go_sem]; first | done | rfl) | rfl), ho4, hT31, hT32⟩
    · have b1 : decide ((i : Int) < (s.words.length : Int)) = false := by simp; omega
      have hie : i = s.words.length := by omega
      subst hie
      (simp (disch := first | decide | omega | (simp only [nx]; first | done | omega)) only [go_sem, q4, q1, q2, t1, b1, q3, kk6]; (repeat with_reducible refine aI ?_))
      rw [bytesS_succ, stailB, if_neg e6, List.append_nil]
      exact NewB.weak (S1 := S1) ⟨own3, rfl, ho3, hT1, hT2⟩ (by omega) hkS
end
end Go.Proofs.YtbcabejdchkpmaaDoor

namespace Go.Proofs.YtbcabejdchkpmaaDoor
open Go.RowKit
theorem unlike_d (own : Own) (l : List Str) (hn : l.length ≤ 140737488351232) : DPure Tryd.prog 88 [.sl own (l.map strD)] (.v (.bool (unlikeB l))) :=
  dpure_of_gives (fun _ _ => by kernel_rfl) fun w η X vs hr => by
    simp only [RepL] at hr
    obtain ⟨y, ys, rfl, h1, rfl⟩ := hr
    obtain ⟨A, c, rfl, hc, hf⟩ := strArg h1
    exact (unlike_calls l A c w hf hn hc).mono fun e w' ⟨he, hw⟩ => ⟨he, hw ▸ Below.refl _ _⟩
theorem rising_d (own : Own) (l : List Str) (hn : l.length ≤ 140737488351232) : DPure Tryd.prog 89 [.sl own (l.map strD)] (.v (.bool (risingB l))) :=
  dpure_of_gives (fun _ _ => by kernel_rfl) fun w η X vs hr => by
    simp only [RepL] at hr
    obtain ⟨y, ys, rfl, h1, rfl⟩ := hr
    obtain ⟨A, c, rfl, hc, hf⟩ := strArg h1
    exact rising_calls l A c w hf hn hc
theorem getD_take {α : Type} {l : List α} {d : α} {i j : Nat} (h : i < j) : (l.take j).getD i d = l.getD i d := by
  rw [List.getD_eq_getElem?_getD, List.getD_eq_getElem?_getD, List.getElem?_take_of_lt h]
theorem unlike_take {l : List Str} (h : unlikeB l = true) (j : Nat) : unlikeB (l.take j) = true := by
  unfold unlikeB at h ⊢
  rw [List.all_eq_true] at h ⊢
  intro i hi
  rw [List.mem_range, List.length_take] at hi
  have h1 := h i (List.mem_range.2 (by omega))
  rw [getD_take (by omega), List.take_take, Nat.min_eq_left (by omega)]
  exact h1
theorem rising_take {l : List Str} (h : risingB l = true) (j : Nat) : risingB (l.take j) = true := by
  unfold risingB at h ⊢
  rw [Bool.and_eq_true] at h ⊢
  refine ⟨?_, unlike_take h.2 j⟩
  have h1 := h.1
  unfold sortedB at h1 ⊢
  rw [List.all_eq_true] at h1 ⊢
  intro i hi
  rw [List.mem_range, List.length_take] at hi
  have h2 := h1 i (List.mem_range.2 (by omega))
  rw [getD_take (by omega), getD_take (by omega)]
  exact h2
def PAt (lo : Nat) (l : List DSch) (d : D) (T : St) : Prop := (l = [] ∧ d = .sl .full []) ∨ ∃ k c zs, d = .win k 0 l.length c ∧ T.ob k = some (ownOb 53 (l.map encS) zs c) ∧ (flat (l.map encS) ++ zs).length = c * 3 ∧ lo ≤ k ∧ k < T.next ∧ 0 < c
def szero : List D := [.v (.int .i64 0), .sl .full [], .sl .full []]
structure SBx (S : St) (k q lo : Nat) (L : List UInt8) (i : Nat) (kd : Int) (ws : List Str) (ps : List DSch) (T : St) : Prop where
  wf : T.WF
  rd : RAt k L i T
  zero : T.ob S.next = some (.box 53 szero)
  fr : RFr k S T
  hlo : lo ≤ T.next
  box : ∃ o1 dP, T.ob q = some (.box 53 [.v (.int .i64 kd), .sl o1 (ws.map strD), dP]) ∧ RowAt lo o1 ws.length 9 T ∧ PAt lo ps dP T
structure SPl (S : St) (k q lo : Nat) : Prop where
  wf : S.WF
  hk : k < S.next
  hq : S.next < q
  hlo : q < lo
theorem PAt.rfr {lo k : Nat} {l : List DSch} {d : D} {T T' : St} (h : PAt lo l d T) (hk : k < lo) (hf : RFr k T T') : PAt lo l d T' := by
  rcases h with h | ⟨j, c, zs, h1, h2, h3, h4, h5, h6⟩
  · exact .inl h
  · exact .inr ⟨j, c, zs, h1, hf.ob j _ (by omega) h2, h3, h4, Nat.lt_of_lt_of_le h5 hf.next, h6⟩
theorem SBx.call {S T T' : St} {k q lo i i' : Nat} {L : List UInt8} {kd : Int} {ws : List Str} {ps : List DSch} (h : SBx S k q lo L i kd ws ps T) (hp : SPl S k q lo) (hr : RAt k L i' T') (hf : RFr k T T') (hT : T'.WF) : SBx S k q lo L i' kd ws ps T' := by
  obtain ⟨o1, dP, b1, b2, b3⟩ := h.box
  have := hp.hk
  have := hp.hq
  have := hp.hlo
  exact ⟨hT, hr, hf.box _ _ _ (by omega) h.zero, h.fr.trans hf, Nat.le_trans h.hlo hf.next, o1, dP, hf.box _ _ _ (by omega) b1, b2.rfr h.rd.isbox hf, b3.rfr (by omega) hf⟩
theorem SBx.word {S T : St} {k q lo i : Nat} {L : List UInt8} {kd : Int} {ws : List Str} {ps : List DSch} {o1 : Own} {dP : D} {w : Str} (h : SBx S k q lo L i kd ws ps T) (hp : SPl S k q lo)
    (b1 : T.ob q = some (.box 53 [.v (.int .i64 kd), .sl o1 (ws.map strD), dP])) (b2 : RowAt lo o1 ws.length 9 T) (b3 : PAt lo ps dP T) :
    SBx S k q lo L i kd (ws ++ [w]) ps ((T.grow o1 9 (ws.length + 1)).set q (.box 53 [.v (.int .i64 kd), .sl (.row T.next) ((ws ++ [w]).map strD), dP])) := by
  have p1 := hp.hk
  have p2 := hp.hq
  have p3 := hp.hlo
  have p4 := h.hlo
  have hT := h.wf
  have hn1 : (T.grow o1 9 (ws.length + 1)).next = T.next + 1 := grow_next _ _ _ _
  have hne := b2.ne (j := q) (.inl p3)
  have keep : ∀ j ob, j ≠ q → (j < lo ∨ ∃ t cs, T.ob j = some (.box t cs)) → T.ob j = some ob → ((T.grow o1 9 (ws.length + 1)).set q (.box 53 [.v (.int .i64 kd), .sl (.row T.next) ((ws ++ [w]).map strD), dP])).ob j = some ob := fun j ob hj hl e => by
    have := hT.lt e
    rw [set_ne hj, grow_skip (by omega) (b2.ne hl), e]
  refine ⟨(hT.grow _ _ _).set (by have := hT.lt b1; omega) _, ?_, keep _ _ (by omega) (.inl (by omega)) h.zero, ⟨?_, fun j ob hj e => ?_⟩, ?_, .row T.next, dP, set_eq, .inr ⟨T.next, rfl, p4, ?_⟩, ?_⟩
  · obtain ⟨own, hr⟩ := h.rd
    exact ⟨own, keep _ _ (by omega) (.inl (by omega)) hr⟩
  · show S.next ≤ (T.grow o1 9 (ws.length + 1)).next
    have := h.fr.next; omega
  · have := hp.wf.lt e
    exact keep j ob (by omega) (.inl (by omega)) (h.fr.ob j ob hj e)
  · show lo ≤ (T.grow o1 9 (ws.length + 1)).next
    omega
  · rw [set_ne (by omega), grow_hit, List.length_append]; rfl
  · rcases b3 with b3 | ⟨j, c, zs, h1, h2, h3, h4, h5, h6⟩
    · exact .inl b3
    · refine .inr ⟨j, c, zs, h1, ?_, h3, h4, by show j < (T.grow o1 9 (ws.length + 1)).next; omega, h6⟩
      rw [ownOb_box h6] at h2 ⊢
      exact keep _ _ (by omega) (.inr ⟨_, _, h2⟩) h2
theorem szSc : szOf Tryd.prog 53 = 3 := by kernel_rfl
theorem wSch (l : List DSch) : ∀ d ∈ l.map encS, d.width = 3 := fun d hd => by obtain ⟨x, _, rfl⟩ := List.mem_map.1 hd; rw [encS_eq]; rfl
theorem SBx.part {S T : St} {k q lo i : Nat} {L : List UInt8} {kd : Int} {ws : List Str} {ps : List DSch} {o1 : Own} {dP : D} {p : DSch} {c' : Nat} {zs' : List D} (h : SBx S k q lo L i kd ws ps T) (hp : SPl S k q lo)
    (b1 : T.ob q = some (.box 53 [.v (.int .i64 kd), .sl o1 (ws.map strD), dP])) (b2 : RowAt lo o1 ws.length 9 T) (b3 : PAt lo ps dP T) (hc : 0 < c') (hl : (flat ((ps ++ [p]).map encS) ++ zs').length = c' * 3) {B : Ob} :
    SBx S k q lo L i kd ws (ps ++ [p]) (((((T.left dP).add B).set T.next (ownOb 53 ((ps ++ [p]).map encS) zs' c')).set q (.box 53 [.v (.int .i64 kd), .sl o1 (ws.map strD), .win T.next 0 (ps.length + 1) c']))) := by
  have p1 := hp.hk
  have p2 := hp.hq
  have p3 := hp.hlo
  have p4 := h.hlo
  have hT := h.wf
  have hwf : (T.left dP).WF := by
    rcases b3 with ⟨_, rfl⟩ | ⟨k, c, zs, rfl, _⟩
    · exact hT
    · intro j hj
      show (if j = k then none else T.ob j) = none
      split
      · rfl
      · exact hT j hj
  have hnx : (T.left dP).next = T.next := by rcases b3 with ⟨_, rfl⟩ | ⟨k, c, zs, rfl, _⟩ <;> rfl
  have keep0 : ∀ j ob, (∀ a n c, dP = .win a 0 n c → j ≠ a) → T.ob j = some ob → (T.left dP).ob j = some ob := fun j ob hj e => by
    rcases b3 with ⟨_, rfl⟩ | ⟨a, c, zs, rfl, _⟩
    · exact e
    · show (if j = a then none else T.ob j) = some ob
      rw [if_neg (hj _ _ _ rfl), e]
  have keep : ∀ j ob, j ≠ q → (∀ a n c, dP = .win a 0 n c → j ≠ a) → T.ob j = some ob → (((((T.left dP).add B).set T.next (ownOb 53 ((ps ++ [p]).map encS) zs' c')).set q (.box 53 [.v (.int .i64 kd), .sl o1 (ws.map strD), .win T.next 0 (ps.length + 1) c']))).ob j = some ob := fun j ob hj ha e => by
    have := hT.lt e
    rw [set_ne hj, set_ne (by omega), add_ne (by omega), keep0 j ob ha e]
  have low : ∀ j, j < lo → ∀ a n c, dP = .win a 0 n c → j ≠ a := fun j hj a n c e => by
    rcases b3 with ⟨_, rfl⟩ | ⟨a', c0, zs, rfl, _, _, h4, _⟩
    · cases e
    · injection e with e1; omega
  refine ⟨((hwf.add _).set (by show T.next < (T.left dP).next + 1; omega) _).set (by have := hT.lt b1; show q < (T.left dP).next + 1; omega) _, ?_, keep _ _ (by omega) (low _ (by omega)) h.zero, ⟨?_, fun j ob hj e => ?_⟩, ?_, o1, .win T.next 0 (ps.length + 1) c', set_eq, ?_, .inr ⟨T.next, c', zs', by rw [List.length_append]; rfl, ?_, hl, p4, ?_, hc⟩⟩
  · obtain ⟨own, hr⟩ := h.rd
    exact ⟨own, keep _ _ (by omega) (low _ (by omega)) hr⟩
  · show S.next ≤ (T.left dP).next + 1
    have := h.fr.next; omega
  · have := hp.wf.lt e
    exact keep j ob (by omega) (low _ (by omega)) (h.fr.ob j ob hj e)
  · show lo ≤ (T.left dP).next + 1
    omega
  · rcases b2 with b2 | ⟨g, h1, h2, h3⟩
    · exact .inl b2
    · refine .inr ⟨g, h1, h2, keep _ _ (by omega) (fun a n c e => ?_) h3⟩
      rcases b3 with ⟨_, rfl⟩ | ⟨a', c0, zs, rfl, h5, _, _, _, h6⟩
      · cases e
      · injection e with e1
        rintro rfl
        rw [ownOb_box h6] at h5
        rw [← e1, h5] at h3; cases h3
  · rw [set_ne (by omega), set_eq]
  · show T.next < (T.left dP).next + 1
    omega
section
set_option maxRecDepth 200000
set_option maxHeartbeats 16000000
theorem scount_r {S : St} {k : Nat} {l rest : List UInt8} {i n least : Nat} (hk : k < S.next) (hr : RAt k l i S) (hl : l.length ≤ 1099511627776) (hi : i ≤ l.length) (hd : l.drop i = numB n ++ rest) (hn : n ≤ 8) (hm : least ≤ n) :
    DCalls Tryd.prog 86 [.loc k 0, .v (.int .u64 (least : Int))] S fun d T => d = .v (.int .i64 (n : Int)) ∧ RAt k l (i + (numB n).length) T ∧ RFr k S T := by
  refine dcalls_inline mixed Tryd.func86 rfl (fun _ _ => by kernel_rfl) (rs := [.tmp 4]) rfl (by kernel_rfl) (fun hS => ?_)
  (simp (disch := first | decide | omega | (simp only [nx]; first | done | omega)) only [go_sem]; (repeat with_reducible refine aI ?_))
  refine (number_r (mx := 18446744073709551615) (n := n) (s := (numB n).length) hk hr hl hi (by rw [hd]; exact numP_numB _ _ (by omega)) (by omega)).mono ?_
  rintro _ T ⟨rfl, h1, h2⟩
  have w2 : IntKind.i64.wrap (n : Int) = (n : Int) := IntWalk.i64_in _ ⟨by omega, by omega⟩
  have b1 : decide ((8 : Int) < (n : Int)) = false := by simp; omega
  have b2 : decide ((n : Int) < (least : Int)) = false := by simp; omega
  (simp (disch := first | decide | omega | (simp only [nx]; first | done | omega)) only [go_sem]; (repeat with_reducible refine aI ?_))
  refine (err_r h1).mono ?_
  rintro _ _ ⟨rfl, he⟩
  rw [he]
  clear he
  (simp (disch := first | decide | omega | (simp only [nx]; first | done | omega)) only [go_sem, b1, b2, cv_u64i64, w2]; (repeat with_reducible refine aI ?_))
  exact h2
theorem wordU_r {S T : St} {k q lo i : Nat} {L rest : List UInt8} {kd : Int} {ws : List Str} {ps : List DSch} {w : Str} (h : SBx S k q lo L i kd ws ps T) (hp : SPl S k q lo) (hL : L.length ≤ 1099511627776) (hi : i ≤ L.length) (hd : L.drop i = numB w.length ++ w ++ rest) (hw : nameB w = true) (hws : ws.length ≤ 8) (hu : unlikeB (ws ++ [w]) = true) :
    DCalls Tryd.prog 87 [.loc k 0, .loc q 0, .fn (.func 88) [] []] T fun d T' => d = undefD ∧ SBx S k q lo L (i + ((numB w.length).length + w.length)) kd (ws ++ [w]) ps T' := by
  have p1 := hp.hk
  have p2 := hp.hq
  have p3 := hp.hlo
  have p4 := h.hlo
  have h12 : w.length ≤ 12 := by
    unfold nameB at hw
    rw [Bool.and_eq_true, decide_eq_true_eq] at hw
    exact hw.2.2
  have heA : elT Tryd.prog 50 = some 9 := by kernel_rfl
  have hzA : szOf Tryd.prog 9 = 1 := by kernel_rfl
  have hbA : bytesOf Tryd.prog 9 = 16 := by kernel_rfl
  refine dcalls_inline mixed Tryd.func87 rfl (fun _ _ => by kernel_rfl) (rs := []) rfl (by kernel_rfl) (fun hS => ?_)
  (simp (disch := first | decide | omega | (simp only [nx]; first | done | omega)) only [go_sem]; (repeat with_reducible refine aI ?_))
  refine (text_r (xs := w) (mx := 64) (by omega) h.rd hL hi (by omega) (by rw [hd]; exact bytP_numB w rest 64 (by omega) (by omega))).wf.mono ?_
  rintro d2 T2 ⟨⟨hd2, h2, hF2⟩, hT2⟩
  have hd2' : d2 = .v (sv w) := hd2
  subst hd2'
  clear hd2
  have r2 := h.call hp h2 hF2 hT2
  obtain ⟨o1, dP, b1, b2, b3⟩ := r2.box
  have hq2 := hT2.lt b1
  (simp (disch := first | decide | omega | (simp only [nx]; first | done | omega)) only [go_sem, b1]; (repeat with_reducible refine aI ?_))
  refine dapp_at (lo := lo) heA (by kernel_rfl) (by rw [List.length_map]; exact b2) (by rw [hzA]; exact wSs _) (by rw [hzA]; rfl) (by rw [List.length_map]; omega) (by rw [List.length_map, hbA]; omega) ?_
  have y1 : ∀ mm, (T2.grow o1 9 mm).ob q = some (.box 53 [.v (.int .i64 kd), .sl o1 (ws.map strD), dP]) := fun mm => by
    rw [grow_skip (by omega) (b2.ne (.inl p3)), b1]
  (simp (disch := first | decide | omega | (simp only [nx]; first | done | omega)) only [go_sem, y1]; (repeat with_reducible refine aI ?_))
  have r3 := r2.word (w := w) hp b1 b2 b3
  have hst : ws.map strD ++ [D.v (sv w)] = (ws ++ [w]).map strD := by rw [List.map_append]; rfl
  rw [hst]
  revert r3
  generalize St.set (St.grow _ _ _ _) _ _ = T3
  intro r3
  obtain ⟨o3, dP3, c1, c2, c3⟩ := r3.box
  refine DCalls.of_pure (name_d w (by unfold maxLen; omega)) ?_
  rw [hw]
  (simp (disch := first | decide | omega | (simp only [nx]; first | done | omega)) only [go_sem, c1]; (repeat with_reducible refine aI ?_))
  refine DCalls.of_pure (unlike_d o3 (ws ++ [w]) (by rw [List.length_append]; simp; omega)) ?_
  rw [hu]
  (simp (disch := first | decide | omega | (simp only [nx]; first | done | omega)) only [go_sem]; (repeat with_reducible refine aI ?_))
  exact r3
theorem wordR_r {S T : St} {k q lo i : Nat} {L rest : List UInt8} {kd : Int} {ws : List Str} {ps : List DSch} {w : Str} (h : SBx S k q lo L i kd ws ps T) (hp : SPl S k q lo) (hL : L.length ≤ 1099511627776) (hi : i ≤ L.length) (hd : L.drop i = numB w.length ++ w ++ rest) (hw : nameB w = true) (hws : ws.length ≤ 8) (hu : risingB (ws ++ [w]) = true) :
    DCalls Tryd.prog 87 [.loc k 0, .loc q 0, .fn (.func 89) [] []] T fun d T' => d = undefD ∧ SBx S k q lo L (i + ((numB w.length).length + w.length)) kd (ws ++ [w]) ps T' := by
  have p1 := hp.hk
  have p2 := hp.hq
  have p3 := hp.hlo
  have p4 := h.hlo
  have h12 : w.length ≤ 12 := by
    unfold nameB at hw
    rw [Bool.and_eq_true, decide_eq_true_eq] at hw
    exact hw.2.2
  have heA : elT Tryd.prog 50 = some 9 := by kernel_rfl
  have hzA : szOf Tryd.prog 9 = 1 := by kernel_rfl
  have hbA : bytesOf Tryd.prog 9 = 16 := by kernel_rfl
  refine dcalls_inline mixed Tryd.func87 rfl (fun _ _ => by kernel_rfl) (rs := []) rfl (by kernel_rfl) (fun hS => ?_)
  (simp (disch := first | decide | omega | (simp only [nx]; first | done | omega)) only [go_sem]; (repeat with_reducible refine aI ?_))
  refine (text_r (xs := w) (mx := 64) (by omega) h.rd hL hi (by omega) (by rw [hd]; exact bytP_numB w rest 64 (by omega) (by omega))).wf.mono ?_
  rintro d2 T2 ⟨⟨hd2, h2, hF2⟩, hT2⟩
  have hd2' : d2 = .v (sv w) := hd2
  subst hd2'
  clear hd2
  have r2 := h.call hp h2 hF2 hT2
  obtain ⟨o1, dP, b1, b2, b3⟩ := r2.box
  have hq2 := hT2.lt b1
  (simp (disch := first | decide | omega | (simp only [nx]; first | done | omega)) only [go_sem, b1]; (repeat with_reducible refine aI ?_))
  refine dapp_at (lo := lo) heA (by kernel_rfl) (by rw [List.length_map]; exact b2) (by rw [hzA]; exact wSs _) (by rw [hzA]; rfl) (by rw [List.length_map]; omega) (by rw [List.length_map, hbA]; omega) ?_
  have y1 : ∀ mm, (T2.grow o1 9 mm).ob q = some (.box 53 [.v (.int .i64 kd), .sl o1 (ws.map strD), dP]) := fun mm => by
    rw [grow_skip (by omega) (b2.ne (.inl p3)), b1]
  (simp (disch := first | decide | omega | (simp only [nx]; first | done | omega)) only [go_sem, y1]; (repeat with_reducible refine aI ?_))
  have r3 := r2.word (w := w) hp b1 b2 b3
  have hst : ws.map strD ++ [D.v (sv w)] = (ws ++ [w]).map strD := by rw [List.map_append]; rfl
  rw [hst]
  revert r3
  generalize St.set (St.grow _ _ _ _) _ _ = T3
  intro r3
  obtain ⟨o3, dP3, c1, c2, c3⟩ := r3.box
  refine DCalls.of_pure (name_d w (by unfold maxLen; omega)) ?_
  rw [hw]
  (simp (disch := first | decide | omega | (simp only [nx]; first | done | omega)) only [go_sem, c1]; (repeat with_reducible refine aI ?_))
  refine DCalls.of_pure (rising_d o3 (ws ++ [w]) (by rw [List.length_append]; simp; omega)) ?_
  rw [hu]
  (simp (disch := first | decide | omega | (simp only [nx]; first | done | omega)) only [go_sem]; (repeat with_reducible refine aI ?_))
  exact r3
end
end Go.Proofs.YtbcabejdchkpmaaDoor
