/- Texts of a proof, part 6. Conditions: none. -/
import Derived.Test.YtbcabejdchkpmaaGreatDoorV5
set_option linter.unusedVariables false
set_option linter.unusedSimpArgs false
namespace Go.Proofs.YtbcabejdchkpmaaGreatDoor
open Go.RowKit
theorem DCalls.frz {P : Program} {g : FuncId} {args : List D} {S : St} {K K' : D → St → Prop} (h : DCalls P g args S K) (hk : ∀ d T, K d T → K' d.frz T) : DCalls P g args S K' := fun base η w vs hM hr => by
  rcases h base η w vs hM hr with ⟨h1, h2⟩ | ⟨d, S', η', v, w', h1, h2, h3, h4⟩
  · exact .inl ⟨h1, h2.mono fun _ _ ⟨d, S', η', v, h1, h2, h3, h4⟩ => ⟨d.frz, S', η', v, hk _ _ h1, h2, h3.frz, h4⟩⟩
  · exact .inr ⟨d.frz, S', η', v, w', h1, hk _ _ h2, h3.frz, h4⟩
theorem rise_d (own : Own) (l : List Str) (hz : ∀ s ∈ l, s.length ≤ maxLen) (hn : l.length ≤ 140737488351232) : DPure Tryz.prog 65 [.sl own (l.map strD)] (.v (.bool (riseV l))) :=
  dpure_of_gives (fun _ _ => by kernel_rfl) fun w η X vs hr => by
    simp only [RepL] at hr
    obtain ⟨y, ys, rfl, h1, rfl⟩ := hr
    obtain ⟨A, c, rfl, hc, hf⟩ := strArg h1
    exact riseV_calls l A c w hf hz hn
theorem ids_d (own : Own) (l : List Nat) (hn : l.length ≤ 140737488351232) : DPure Tryz.prog 67 [.sl own (l.map u64D)] (.v (.bool (idsB l))) :=
  dpure_of_gives (fun _ _ => by kernel_rfl) fun w η X vs hr => by
    simp only [RepL] at hr
    obtain ⟨y, ys, rfl, h1, rfl⟩ := hr
    obtain ⟨A, c, rfl, hc, hf⟩ := scalars_of_rep uv h1
    exact (ids_calls l A c w hf hn hc).mono fun e w' ⟨he, hw⟩ => ⟨he, hw ▸ Below.refl _ _⟩
section
set_option maxRecDepth 200000
set_option maxHeartbeats 8000000
theorem name_r {S : St} {k : Nat} {l rest : List UInt8} {i : Nat} (s : Str) (hk : k < S.next) (hr : RAt k l i S) (hl : l.length ≤ 1099511627776) (hi : i ≤ l.length) (hd : l.drop i = numB s.length ++ s ++ rest) (hs : nameB s = true) :
    DCalls Tryz.prog 63 [.loc k 0] S fun d T => d = strD s ∧ RAt k l (i + ((numB s.length).length + s.length)) T ∧ RFr k S T := by
  have h12 : s.length ≤ 12 := by
    unfold nameB at hs
    rw [Bool.and_eq_true, decide_eq_true_eq] at hs
    exact hs.2.2
  refine dcalls_inline mixed Tryz.func63 rfl (fun _ _ => by kernel_rfl) (rs := [.tmp 2]) rfl (by kernel_rfl) (fun hS => ?_)
  (simp (disch := first | decide | omega | (simp only [nx]; first | done | omega)) only [go_sem]; (repeat with_reducible refine aI ?_))
  refine (text_r (xs := s) (mx := 64) hk hr hl hi (by omega) (by rw [hd]; exact bytP_numB s rest 64 (by omega) (by omega))).mono ?_
  rintro _ T ⟨rfl, h1, h2⟩
  (simp (disch := first | decide | omega | (simp only [nx]; first | done | omega)) only [go_sem]; (repeat with_reducible refine aI ?_))
  refine DCalls.of_pure (name_d s (by unfold maxLen; omega)) ?_
  rw [hs]
  (simp (disch := first | decide | omega | (simp only [nx]; first | done | omega)) only [go_sem]; (repeat with_reducible refine aI ?_))
  exact ⟨rfl, h1, h2⟩
theorem count_r {S : St} {k : Nat} {l rest : List UInt8} {i n mx : Nat} (hk : k < S.next) (hr : RAt k l i S) (hl : l.length ≤ 1099511627776) (hi : i ≤ l.length) (hd : l.drop i = numB n ++ rest) (hn : n ≤ mx) (hm : mx ≤ 1000) :
    DCalls Tryz.prog 64 [.loc k 0, .v (.int .i64 (mx : Int))] S fun d T => d = .v (.int .i64 (n : Int)) ∧ RAt k l (i + (numB n).length) T ∧ RFr k S T := by
  refine dcalls_inline mixed Tryz.func64 rfl (fun _ _ => by kernel_rfl) (rs := [.tmp 4]) rfl (by kernel_rfl) (fun hS => ?_)
  (simp (disch := first | decide | omega | (simp only [nx]; first | done | omega)) only [go_sem]; (repeat with_reducible refine aI ?_))
  refine (number_r (mx := 18446744073709551615) (n := n) (s := (numB n).length) hk hr hl hi (by rw [hd]; exact numP_numB _ _ (by omega)) (by omega)).mono ?_
  rintro _ T ⟨rfl, h1, h2⟩
  have w1 : IntKind.u64.wrap (mx : Int) = (mx : Int) := wrap_u64 mx (by unfold IsU64; omega)
  have w2 : IntKind.i64.wrap (n : Int) = (n : Int) := IntWalk.i64_in _ ⟨by omega, by omega⟩
  have b1 : decide ((mx : Int) < (n : Int)) = false := by simp; omega
  (simp (disch := first | decide | omega | (simp only [nx]; first | done | omega)) only [go_sem, cv_i64u64, cv_u64i64, w1, w2, b1]; (repeat with_reducible refine aI ?_))
  exact h2
end
end Go.Proofs.YtbcabejdchkpmaaGreatDoor

namespace Go.Proofs.YtbcabejdchkpmaaGreatDoor
open Go.RowKit
theorem grow_old {S : St} {own : Own} {e : TypeId} {n m : Nat} (hm : m < S.next) (h : ∀ r, own = .row r → m ≠ r) : (S.grow own e n).ob m = S.ob m := by
  cases own with
  | no => simp [St.grow, St.leave, St.add, show m ≠ S.next by omega]
  | full => simp [St.grow, St.leave, St.add, show m ≠ S.next by omega]
  | row r => simp [St.grow, St.leave, St.add, St.drop, show m ≠ S.next by omega, h r rfl]
theorem grow_new {S : St} {own : Own} {e : TypeId} {n : Nat} : (S.grow own e n).ob S.next = some (.row e n) := by
  cases own <;> simp [St.grow, St.leave, St.add, St.drop]
end Go.Proofs.YtbcabejdchkpmaaGreatDoor

namespace Go.Proofs.YtbcabejdchkpmaaGreatDoor
open Go.RowKit
theorem bin_quo {P : Program} {t : TypeId} {x y : Operand} (k : IntKind) (a b : Int) (hb : b ≠ 0) : dbin P .quo t x y (.v (.int k a)) (.v (.int k b)) = some (True, .v (.int k (k.wrap (a.tdiv b)))) := by
  simp [dbin, eqGuard, binOp, Op.intDiv, pureRun_bind, pureRun_pure, hb]
theorem dapp_bytes2 {S : St} {ty : TypeId} {own own2 : Own} {bs xs : List UInt8} {K : D → St → Prop} (h : own = .full ∨ ∃ g, own = .row g ∧ S.ob g = some (.row 5 bs.length)) (hl : bs.length + xs.length ≤ 1099511627776)
    (k : K (.sl (.row S.next) ((bs ++ xs).map bD)) (S.grow own 5 (bs.length + xs.length))) : dapp Tryz.prog S 29 29 ty (.sl own (bs.map bD)) (.sl own2 (xs.map bD)) K := by
  refine dapp_row ?_
  have he : elT Tryz.prog 29 = some 5 := by kernel_rfl
  have hb : bytesOf Tryz.prog 5 = 1 := by kernel_rfl
  have hz : zeroT Tryz.prog 5 = true := by kernel_rfl
  simp only [dappend, he, hz, hb, List.length_map, ← List.map_append, true_and, Option.isSome_some]
  refine ⟨wd_bD bs, wd_bD xs, ?_, by omega, by omega, k⟩
  rcases h with rfl | ⟨g, rfl, h⟩
  · trivial
  · exact h
def NewB (S T : St) (d : D) (bs : List UInt8) : Prop := ∃ own, d = .sl own (bs.map bD) ∧ (own = .full ∨ ∃ g, own = .row g ∧ S.next ≤ g ∧ T.ob g = some (.row 5 bs.length)) ∧ S.next ≤ T.next ∧ ∀ j o, S.ob j = some o → T.ob j = some o
theorem NewB.grow {S T : St} {own own2 : Own} {bs xs : List UInt8} (hS : S.WF) (h : own = .full ∨ ∃ g, own = .row g ∧ S.next ≤ g ∧ T.ob g = some (.row 5 bs.length)) (hn : S.next ≤ T.next) (hk : ∀ j o, S.ob j = some o → T.ob j = some o) : NewB S (T.grow own 5 (bs.length + xs.length)) (.sl (.row T.next) ((bs ++ xs).map bD)) (bs ++ xs) := by
  refine ⟨_, rfl, .inr ⟨T.next, rfl, hn, by rw [grow_new, List.length_append]⟩, by rw [grow_next]; omega, fun j o e => ?_⟩
  have := hS.lt e
  rw [grow_old (by omega) (fun r e2 => ?_), hk j o e]
  rcases h with h | ⟨g, h, hg, _⟩
  · rw [h] at e2; cases e2
  · rw [h] at e2; injection e2 with e2; omega
set_option maxRecDepth 200000 in
set_option maxHeartbeats 8000000 in
theorem refNum_w (m : Nat) : ∀ (n : Nat) (S : St), IsU64 n → n < m → DCalls Tryz.prog 23 [.v (.int .u64 (n : Int))] S fun d T => NewB S T d (numB n) := by
  induction m with
  | zero => intro n S _ h; omega
  | succ m ih =>
    intro n S hn hm
    refine dcalls_inline mixed Tryz.func23 rfl (fun _ _ => by kernel_rfl) (rs := [.tmp 2]) rfl (by kernel_rfl) (fun hS => ?_)
    by_cases h : n < 128
    · have b1 : decide ((n : Int) < 128) = true := by simp; omega
      have w8 : IntKind.u8.wrap (n : Int) = (n : Int) := by rw [wrap_u8]; omega
      (simp (disch := first | decide | omega | (simp only [nx]; first | done | omega)) only [go_sem, b1, w8]; (repeat with_reducible refine aI ?_))
      refine ⟨.full, ?_, .inl rfl, Nat.le_refl _, fun _ _ h => h⟩
      rw [numB_lt n h, ← bD1 n (by omega)]
    · have b1 : decide ((n : Int) < 128) = false := by simp; omega
      have e1 : (n : Int).tmod 128 = ((n % 128 : Nat) : Int) := rfl
      have e2 : (n : Int).tdiv 128 = ((n / 128 : Nat) : Int) := rfl
      have w8 : IntKind.u8.wrap ((n % 128 : Nat) : Int) = ((n % 128 : Nat) : Int) := by rw [wrap_u8]; omega
      have wa : IntKind.u8.wrap (((n % 128 : Nat) : Int) + 128) = ((n % 128 + 128 : Nat) : Int) := by
        rw [show ((n % 128 : Nat) : Int) + 128 = ((n % 128 + 128 : Nat) : Int) from by push_cast; rfl, wrap_u8]; omega
      have wq : IntKind.u64.wrap ((n / 128 : Nat) : Int) = ((n / 128 : Nat) : Int) := wrap_u64 _ (by unfold IsU64 at *; omega)
      (simp (disch := first | decide | omega | (simp only [nx]; first | done | omega)) only [go_sem, b1, bin_rem, bin_quo, e1, e2, w8, wa, wq]; (repeat with_reducible refine aI ?_))
      refine (ih (n / 128) S (by unfold IsU64 at *; omega) (by omega)).mono ?_
      rintro _ T ⟨own, rfl, ho, hT1, hT2⟩
      (simp (disch := first | decide | omega | (simp only [nx]; first | done | omega)) only [go_sem]; (repeat with_reducible refine aI ?_))
      rw [bD1 (n % 128 + 128) (by omega)]
      have hln := numB_length_le (n / 128) (by unfold IsU64 at *; omega)
      refine dapp_bytes2 (.inl rfl) (by simp only [List.length_cons, List.length_nil]; omega) ?_
      (simp (disch := first | decide | omega | (simp only [nx]; first | done | omega)) only [go_sem]; (repeat with_reducible refine aI ?_))
      rw [numB_ge n h]
      exact NewB.grow (own := .full) (own2 := .full) (bs := [b8 (n % 128 + 128)]) (xs := numB (n / 128)) hS (.inl rfl) hT1 hT2
set_option maxRecDepth 200000 in
set_option maxHeartbeats 8000000 in
theorem refByt_w {S : St} (own : Own) (xs : List UInt8) (hx : xs.length ≤ 1000000) : DCalls Tryz.prog 22 [.sl own (xs.map bD)] S fun d T => NewB S T d (numB xs.length ++ xs) := by
  refine dcalls_inline mixed Tryz.func22 rfl (fun _ _ => by kernel_rfl) (rs := [.tmp 2]) rfl (by kernel_rfl) (fun hS => ?_)
  have hu : IsU64 xs.length := by unfold IsU64; omega
  (simp (disch := first | decide | omega | (simp only [nx]; first | done | omega)) only [go_sem, wrap_u64 xs.length hu]; (repeat with_reducible refine aI ?_))
  refine (refNum_w _ xs.length S hu (Nat.lt_succ_self _)).mono ?_
  rintro _ T ⟨own, rfl, ho, hT1, hT2⟩
  (simp (disch := first | decide | omega | (simp only [nx]; first | done | omega)) only [go_sem]; (repeat with_reducible refine aI ?_))
  have hln := numB_length_le xs.length hu
  refine dapp_bytes2 (ho.imp id fun ⟨g, h1, _, h2⟩ => ⟨g, h1, h2⟩) (by omega) ?_
  (simp (disch := first | decide | omega | (simp only [nx]; first | done | omega)) only [go_sem]; (repeat with_reducible refine aI ?_))
  exact NewB.grow (own2 := .full) hS ho hT1 hT2
end Go.Proofs.YtbcabejdchkpmaaGreatDoor

namespace Go.Proofs.YtbcabejdchkpmaaGreatDoor
open Go.RowKit

section
variable {P : Program} {base : Nat} {S : St} {η : Names} {w : World}
theorem run_append_zeros (w : World) (t tx ty e : TypeId) (i : TypeInfo) (z : Value) (kk : IntKind) (ht : P.underlying t = some (.slice e)) (hi : P.info? e = some i) (hz : i.zero = some z) (hx : P.underlying tx = some (.int kk)) (base : Option Addr) (sLen sCap : Nat) (olds : List Value)
    (hold : (Builtin.firstCells i.size sLen (.slice base sLen sCap)).run P w.drew = .ok olds.toArray w.drew) (m : Nat) (k : IntKind)
    (hg : sCap < sLen + m) (h63 : ((sLen + m : Nat) : Int) ≤ 9223372036854775807) (hfit : Builtin.nextslicecap (sLen + m) sCap * i.bytes ≤ 281474976710656) (hm : m * i.bytes ≤ 281474976710656) (hm0 : m * i.size ≠ 0) :
    (Builtin.append_ #[t, tx] ty #[.slice base sLen sCap, .int k m]).run P w =
      .ok (.slice (some ⟨w.heap.size, 0, none⟩) (sLen + m) (grownCap w (sLen + m) sCap e))
        (w.drew.alloc (.cells (olds.toArray ++ Builtin.zeroCells z.cells m ++ Builtin.zeroCells z.cells (grownCap w (sLen + m) sCap e - (sLen + m))) e)) := by
  have hn : ¬ (sLen + m ≤ sCap) := by omega
  have h63' : ¬ (9223372036854775807 < ((sLen : Int) + (m : Int))) := by omega
  have h48' : ¬ (281474976710656 < Builtin.nextslicecap (sLen + m) sCap * i.bytes) := by omega
  have hw : IntKind.i64.wrap (m : Int) = m := (by rw [IntKind.wrap_i64]; omega)
  have h0 : ¬ ((m : Int) < 0) := by omega
  have h1 : ¬ (281474976710656 < (m : Int) * (i.bytes : Int)) := by
    have : (m : Int) * (i.bytes : Int) = ((m * i.bytes : Nat) : Int) := by simp
    omega
  simp [Builtin.append_, run_underlying ht, run_underlying hx, sizeOf, typeInfo, zeroValue, hi, hz, asInt, asIntOf, hw, h0, h1, hn, h63', h48', Question.forced, hold, newRow, grownCap]
  intro h
  exact absurd h hm0
theorem dappend_zeros {t tx ty e : TypeId} {kk : IntKind} (he : elT P t = some e) (hx : P.underlying tx = some (.int kk)) (hz : zeroT P e = true) (hz2 : zeroOk P e = true) {n c m : Nat} {k off : Nat} {olds : List D} {ik : IntKind} {K : D → St → Prop} (ho : SrcOk S (szOf P e) (.win k off n c) n olds)
    (hgrow : c < n + m) (hnc : n ≤ c) (hb : n + m ≤ 140737488355328) (hby : (n + m) * bytesOf P e ≤ 140737488355328)
    (h : ∀ (c' : Nat) (zs : List D), n + m ≤ c' → (olds ++ zs).length = c' * szOf P e → K (.win S.next 0 (n + m) c') (S.add (.box e (olds ++ zs)))) : dappW P t tx ty (.win k off n c) (.v (.int ik m)) S K := by
  intro base η w vs hM hr
  simp only [RepL] at hr
  obtain ⟨x1, _, rfl, r1, x2, _, rfl, r2, rfl⟩ := hr
  simp only [Rep] at r2
  subst r2
  obtain ⟨os, o1, o2⟩ := srcOk_at hM ho r1
  obtain ⟨i, z, hi, hzr, hzs, hpos, hsz, hbz⟩ := zeroT_spec hz
  obtain ⟨z2, i2, hi2, hz2r, _, hz1, _⟩ := zeroOk_spec hz2
  rw [hi] at hi2
  injection hi2 with hi2
  subst hi2
  rw [hzr] at hz2r
  injection hz2r with hz2r
  subst hz2r
  have hu := elT_spec he
  obtain ⟨A, e1, _⟩ := r1.win_slice
  subst e1
  have hso := o1.src (tx := t) (by rw [he]; rfl)
  rw [hsz] at hso
  have hcold := hso.cellsD
  have hmb : m * i.bytes ≤ 281474976710656 := by
    have : m * i.bytes ≤ (n + m) * i.bytes := Nat.mul_le_mul_right _ (Nat.le_add_left _ _)
    rw [hbz] at hby
    omega
  have hrun := run_append_zeros (P := P) w t tx ty e i z kk hu hi hzr hx A n c os hcold m ik hgrow (by omega) (growslice_fits hgrow (by rw [← hbz]; exact hby)) hmb (by
    have : 1 * 1 ≤ m * i.size := Nat.mul_le_mul (by omega) (by omega)
    omega)
  have G1 := goes_drew hM
  have hge := grownCap_ge w (n + m) c e
  have G3 := G1.trans (goes_name G1.mem (.box e (olds ++ ((Builtin.zeroCells z.cells m).toList ++ (Builtin.zeroCells z.cells (grownCap w (n + m) c e - (n + m))).toList).map ofV)) (os.toArray ++ Builtin.zeroCells z.cells m ++ Builtin.zeroCells z.cells (grownCap w (n + m) c e - (n + m))) e
    (.inl ⟨_, os ++ ((Builtin.zeroCells z.cells m).toList ++ (Builtin.zeroCells z.cells (grownCap w (n + m) c e - (n + m))).toList), rfl, by apply Array.ext'; simp, RepL.append (G1.repL o2) (zeroD_rep _), fun u hu' => (List.mem_append.1 hu').elim (o1.one u) fun hh => (List.mem_append.1 hh).elim (fun hh => hz1 u (zeroCells_mem hh)) fun hh => hz1 u (zeroCells_mem hh)⟩))
  refine ⟨_, _, _, _, _, hrun, h _ _ hge ?_, ?_, G3⟩
  · have e1 := size_zeroCells z.cells (grownCap w (n + m) c e - (n + m))
    have e2 := size_zeroCells z.cells m
    rw [← Array.length_toList] at e1 e2
    rw [List.length_append, List.length_map, List.length_append, ho.length, e1, e2, hzs, hsz, ← Nat.add_mul, ← Nat.add_mul]
    congr 1
    omega
  · simp only [Rep]
    exact .inl ⟨w.heap.size, by simp only [Names.add, ↓reduceIte]; rfl, rfl, hge, hb⟩
theorem doverlaps {g : FuncId} {fn : Func} {t e : TypeId} {tr : TypeId} (hf : P.funcs[g]? = some fn) (hname : (fn.name == "runtime.NumGoroutine") = false) (hb : fn.body.isNone = true) (hn : Extern.findNext fn = none) (hx : Extern.find fn = some (Extern.SlicesOverlaps.overlaps #[t, t] #[tr]))
    (he : elT P t = some e) (hi : (P.info? e).isSome = true) {o : Own} {es : List D} {k off n c : Nat} {bt : TypeId} {cs : List D} (hk : S.ob k = some (.box bt cs)) (hcs : cs ≠ []) {K : D → St → Prop} (h : K (.v (.bool false)) S) : DCalls P g [.sl o es, .win k off n c] S K := by
  intro base η w vs hM hr
  simp only [RepL] at hr
  obtain ⟨x1, _, rfl, r1, x2, _, rfl, r2, rfl⟩ := hr
  obtain ⟨b, bs, rfl, hbb, g1, g2, g3, g4, g5⟩ := win_live hM hk r2
  obtain ⟨i, hi⟩ := Option.isSome_iff_exists.1 hi
  have hu := elT_spec he
  refine .inr ⟨.v (.bool false), S, η, .bool false, w, ?_, h, by simp only [Rep], Goes.refl hM⟩
  rw [run_callFunc_extern hf hname hb hn hx]
  simp only [Rep] at r1
  obtain ⟨A, cap, rfl, h2, h3, h4, h5⟩ := r1
  have hshb : w.shape? b = some (bt, bs.length) := by simp [World.shape?, g1]
  have hbl : bs.length ≠ 0 := by rw [g2.length]; exact fun h => hcs (List.eq_nil_of_length_eq_zero h)
  have hfb : ∀ x, w.frozen? ⟨b, x, none⟩ = false := fun x => by simp [World.frozen?, g1]
  have key : ((Extern.SlicesOverlaps.overlaps #[t, t] #[tr] #[.slice A es.length cap, .slice (some ⟨b, off, none⟩) n c]).run P w) = .ok (.bool false) w := by
    change Sem.run P (α := Value) (do
      let some t := (#[t, t] : Array TypeId)[0]? | stuck "slices.overlaps: no parameter types"
      let .slice elem ← underlying t | stuck "slices.overlaps: slice type expected"
      let size ← sizeOf elem
      match A, (some ⟨b, off, none⟩ : Option Addr) with
      | some a, some b =>
        if es.length = 0 ∨ n = 0 ∨ size = 0 then pure (Value.bool false)
        else if a.block != b.block && (← frozen a) && (← frozen b) then unsupported .addressObserved
        else do
          if a.block != b.block then do
            noView a; noView b
            if ← mayBeOne a b then return Value.bool ((← choose (.extern "sameAddr.stringBytes" 2)) == 1)
          pure (Value.bool (a.block == b.block && a.off < b.off + n * size && b.off < a.off + es.length * size))
      | _, _ => pure (Value.bool false)) w = _
    rcases Nat.eq_zero_or_pos es.length with h0 | h0
    · cases A with
      | none => simp [run_underlying hu, sizeOf, typeInfo, hi]
      | some a => simp [run_underlying hu, sizeOf, typeInfo, hi, h0]
    · obtain ⟨b', o', z, rfl, hz, hE⟩ := h5 h0
      obtain ⟨d, hd⟩ : ∃ d, es[0]? = some d := ⟨_, List.getElem?_eq_getElem h0⟩
      have hel := (RepE.get 0 hE hd).cells
      simp only [Nat.zero_mul, Nat.add_zero] at hel
      have hcell : Fix P S η b' o' ∧ ∃ x, w.cell? ⟨b', o', none⟩ = some x := by
        cases hdc : d.cells with
        | nil => exfalso; have := hel.1; rw [D.width, hdc] at this; simp at this; omega
        | cons y l =>
          have := hel.2
          rw [hdc] at this
          simp only [RepC] at this
          exact ⟨this.1.1, _, this.1.2.choose_spec.1⟩
      obtain ⟨hfix, x, hx⟩ := hcell
      have hne : b' ≠ b := fun e => by subst e; exact hfix k _ hbb hk
      have hsh : ∃ te kA, w.shape? b' = some (te, kA + 1) := by
        unfold World.cell? at hx
        unfold World.shape?
        simp only at hx ⊢
        split at hx
        · rename_i cc tt ff hh
          have : o' < cc.size := by
            simp only [Option.isSome_none, Bool.false_eq_true, if_false] at hx
            exact (Array.getElem?_eq_some_iff.1 hx).1
          exact ⟨tt, cc.size - 1, by congr 2; omega⟩
        · cases hx
      obtain ⟨te, kA, hsh⟩ := hsh
      have hnb : (b' != b) = true := by simpa using hne
      have hnb' : (b' == b) = false := by simpa using hne
      by_cases h0' : n = 0 ∨ i.size = 0
      · have : es.length = 0 ∨ n = 0 ∨ i.size = 0 := .inr h0'
        simp [run_underlying hu, sizeOf, typeInfo, hi]
        intro _ a1 a2
        exact absurd h0' (by simp [a1, a2])
      · have h00 : ¬ (es.length = 0 ∨ n = 0 ∨ i.size = 0) := by omega
        cases hz1 : w.frozen? ⟨b', o', none⟩ <;> cases hz2 : w.frozen? ⟨b', kA + 1, none⟩ <;>
          simp [run_underlying hu, sizeOf, typeInfo, hi, hnb, hnb', frozen, noView, viewAt, mayBeOne, stringish, shape, Sem.run, hsh, hshb, hfb, hz1, hz2, hbl]
  show ((Extern.SlicesOverlaps.overlaps #[t, t] #[tr] #[.slice A es.length cap, .slice (some ⟨b, off, none⟩) n c]).run P w).andThen _ = _
  rw [key]
  rfl
theorem splice_at {B C X : List D} {o : Nat} (ho : o = B.length) : splice (B ++ C) o X = B ++ X ++ C.drop X.length := by
  subst ho
  unfold splice
  rw [List.take_append_of_le_length (Nat.le_refl _), List.take_of_length_le (Nat.le_refl _), List.drop_append, List.drop_of_length_le (by omega), List.nil_append]
  congr 2
  omega
theorem ins_old {B C X zs : List D} {o o' : Nat} (ho : o = B.length) (ho' : o' = B.length + X.length) (hl : X.length ≤ zs.length) : splice (splice (B ++ C ++ zs) o' C) o X = B ++ X ++ C ++ zs.drop X.length := by
  have e : B ++ C ++ zs = (B ++ C ++ zs).take (B.length + X.length) ++ (B ++ C ++ zs).drop (B.length + X.length) := (List.take_append_drop _ _).symm
  have hl1 : ((B ++ C ++ zs).take (B.length + X.length)).length = B.length + X.length := by rw [List.length_take]; simp; omega
  have h1 : splice (B ++ C ++ zs) o' C = (B ++ C ++ zs).take (B.length + X.length) ++ C ++ zs.drop X.length := by
    rw [e, splice_at (ho'.trans hl1.symm), ← e, List.drop_drop, List.drop_append (l₁ := B ++ C), List.drop_of_length_le (by simp only [List.length_append]; omega), List.nil_append]
    congr 2
    simp only [List.length_append]
    omega
  rw [h1]
  have e2 : (B ++ C ++ zs).take (B.length + X.length) = B ++ (C ++ zs).take X.length := by
    rw [List.append_assoc, List.take_append, List.take_of_length_le (by omega)]
    congr 2
    omega
  have hl2 : ((C ++ zs).take X.length).length = X.length := by rw [List.length_take]; simp; omega
  rw [e2, List.append_assoc, List.append_assoc, splice_at ho]
  rw [List.drop_append, List.drop_of_length_le (by omega), List.nil_append, hl2, Nat.sub_self, List.drop_zero]
  try simp
def OwnD (P : Program) (S : St) (e : TypeId) (es : List D) (d : D) : Prop := (es = [] ∧ d = .sl .full []) ∨ ∃ k c zs, d = .win k 0 es.length c ∧ S.ob k = some (ownOb e es zs c) ∧ (flat es ++ zs).length = c * szOf P e ∧ k < S.next
def St.left (S : St) : D → St
  | .win k _ _ _ => S.drop k
  | _ => S
theorem dapp_ownD {t tx ty e : TypeId} (he : elT P t = some e) (hx : (elT P tx).isSome = true) (hz : zeroT P e = true) (hz2 : zeroOk P e = true) {d : D} {es es2 : List D} {o2 : Own} {K : D → St → Prop} (hd : OwnD P S e es d) (hw1 : ∀ d ∈ es, d.width = szOf P e) (hw2 : ∀ d ∈ es2, d.width = szOf P e)
    (hb : es.length + es2.length ≤ 140737488355328) (hby : (es.length + es2.length) * bytesOf P e ≤ 140737488355328)
    (h : ∀ (c' : Nat) (zs' : List D), (flat (es ++ es2) ++ zs').length = c' * szOf P e → K (.win S.next 0 (es.length + es2.length) c') ((S.left d).add (ownOb e (es ++ es2) zs' c'))) : dapp P S t tx ty d (.sl o2 es2) K := by
  rcases hd with ⟨rfl, rfl⟩ | ⟨k, c, zs, rfl, hk, hl, hkn⟩
  · refine dapp_nil he (dappend_fresh he hx hz hz2 (srcOk_sl hw2) rfl (by simpa using hb) (by simpa using hby) fun c' zs' _ h2 => ?_)
    have := h c' zs' (by simpa using h2)
    simpa [St.left] using this
  · rw [dapp_atw]
    exact dappend_own he hx hz hz2 hk hl hw1 (srcOk_sl hw2) rfl hb hby hkn fun c' zs' _ h2 => h c' zs' h2
theorem OwnD.mono {T T' : St} {e : TypeId} {es : List D} {d : D} (hd : OwnD P T e es d) (hs : T.Sub T') : OwnD P T' e es d := by
  rcases hd with h | ⟨k, c, zs, h1, h2, h3, h4⟩
  · exact .inl h
  · exact .inr ⟨k, c, zs, h1, hs.ob _ _ h2, h3, Nat.lt_of_lt_of_le h4 hs.next⟩
theorem OwnD.sub {S0 T : St} (hS : S0.WF) (hs : S0.Sub T) {e : TypeId} {es : List D} {d : D} (hd : OwnD P T e es d) (hlo : ∀ k o n c, d = .win k o n c → S0.next ≤ k) : S0.Sub (T.left d) := by
  rcases hd with ⟨_, rfl⟩ | ⟨k, c, zs, rfl, _⟩
  · exact hs
  · exact ⟨hs.next, fun j o hj => by
      have h1 := hS.lt hj
      have h2 := hlo _ _ _ _ rfl
      show (if j = k then none else T.ob j) = some o
      rw [if_neg (by omega)]
      exact hs.ob j o hj⟩
theorem left_next (T : St) (d : D) : (T.left d).next = T.next := by cases d <;> rfl
theorem St.WF.left {T : St} (h : T.WF) (d : D) : (T.left d).WF := by
  cases d with
  | win k o n c => exact h.drop k
  | _ => exact h
theorem OwnD.win {e : TypeId} {es : List D} {d : D} (hd : OwnD P S e es d) : ∃ S1 k c zs, Thaw P S d S1 (.win k 0 es.length c) ∧ (S1 = S ∨ S1 = S.add (.row e 0)) ∧ S1.ob k = some (ownOb e es zs c) ∧ (flat es ++ zs).length = c * szOf P e ∧ k < S1.next ∧ ((∃ o n c', d = .win k o n c') ∨ k = S.next) := by
  rcases hd with ⟨rfl, rfl⟩ | ⟨k, c, zs, rfl, h1, h2, h3⟩
  · exact ⟨_, S.next, 0, [], thaw_nil e, .inr rfl, by simp [St.add, ownOb_nil], by simp [flat], by simp [St.add], .inr rfl⟩
  · exact ⟨S, k, c, zs, Thaw.refl _ _ _, .inl rfl, h1, h2, h3, .inl ⟨_, _, _, rfl⟩⟩
end
end Go.Proofs.YtbcabejdchkpmaaGreatDoor

namespace Go.Proofs.YtbcabejdchkpmaaGreatDoor
open Go.RowKit
set_option maxHeartbeats 4000000 in
set_option maxRecDepth 20000 in
theorem ins_str {S : St} {k c i n : Nat} {es zs : List D} {x : D} {o : Own} {K : D → St → Prop} (hk : S.ob k = some (ownOb 9 es zs c)) (hl : (flat es ++ zs).length = c * 1) (hw : ∀ d ∈ es, d.width = 1) (hx : x.width = 1) (hi : i ≤ es.length) (hn : es.length ≤ 1073741824) (hkn : k < S.next) (hnn : n = es.length)
    (h : ∀ (c' : Nat) (zs' : List D), es.length + 1 ≤ c' → (flat (es.take i ++ [x] ++ es.drop i) ++ zs').length = c' * 1 → K (.win S.next 0 (n + 1) c') ((S.drop k).add (ownOb 9 (es.take i ++ [x] ++ es.drop i) zs' c'))) :
    DCalls Tryz.prog 48 [.win k 0 n c, .v (.int .i64 i), .sl o [x]] S K := by
  subst hnn
  have hc := ownOb_len hw (by omega) hl
  have heT : elT Tryz.prog 22 = some 9 := by kernel_rfl
  have heS : (elT Tryz.prog 22).isSome = true := by rw [heT]; rfl
  have hsz : szOf Tryz.prog 9 = 1 := by kernel_rfl
  have hby : bytesOf Tryz.prog 9 = 16 := by kernel_rfl
  have hzT : zeroT Tryz.prog 9 = true := by kernel_rfl
  have hzO : zeroOk Tryz.prog 9 = true := by kernel_rfl
  have hiS := (zeroT_pos hzT).2
  refine DCalls.thaw ?_
  refine dcalls_inline mixed Tryz.func48 rfl (fun _ _ => by kernel_rfl) (rs := [.tmp 6]) rfl (by kernel_rfl) (fun hS => ?_)
  have hwr : IntKind.i64.wrap ((es.length : Int) + ((1 : Nat) : Int)) = ((es.length + 1 : Nat) : Int) := by rw [IntKind.wrap_i64]; omega
  have h10 : (((1 : Nat) : Int) == 0) = false := by decide
  by_cases hin : i = es.length
  · subst hin
    have b1 : ((es.length : Int) == (es.length : Int)) = true := by simp
    (simp (disch := first | decide | omega | (simp only [nx]; first | done | omega)) only [go_sem, hwr, h10, b1]; (repeat with_reducible refine aI ?_))
    refine dappend_own heT heS hzT hzO hk (by rw [hsz]; exact hl) (by rw [hsz]; exact hw) (es2 := [x]) (srcOk_one (by rw [hsz]; exact hx)) rfl (by simp; omega) (by rw [hby]; simp; omega) hkn fun c' zs' h1 h2 => ?_
    (simp (disch := first | decide | omega | (simp only [nx]; first | done | omega)) only [go_sem]; (repeat with_reducible refine aI ?_))
    refine ⟨_, _, Thaw.refl _ _ _, ?_⟩
    have := h c' zs' h1
    rw [List.take_of_length_le (Nat.le_refl _), List.drop_of_length_le (Nat.le_refl _), List.append_nil] at this
    exact this (by rw [hsz] at h2; exact h2)
  · have b1 : ((i : Int) == (es.length : Int)) = false := by simp; omega
    have hcap : 0 < c := by omega
    have hk0 := hk
    rw [ownOb_box hcap] at hk
    by_cases hgr : c < es.length + 1
    · have b2 : decide ((c : Int) < ((es.length + 1 : Nat) : Int)) = true := by simp; omega
      have hwr2 : IntKind.i64.wrap (((es.length + 1 : Nat) : Int) - (i : Int)) = ((es.length + 1 - i : Nat) : Int) := by rw [IntKind.wrap_i64]; omega
      have hwr3 : IntKind.i64.wrap ((i : Int) + ((1 : Nat) : Int)) = ((i + 1 : Nat) : Int) := by rw [IntKind.wrap_i64]; omega
      (simp (disch := first | decide | omega | (simp only [nx]; first | done | omega)) only [go_sem, hwr, h10, b1, b2, hwr2]; (repeat with_reducible refine aI ?_))
      have hso := srcOk_own0 (c' := c) hk0 hc hw hi
      refine dappend_zeros heT (kk := .i64) (by kernel_rfl) hzT hzO hso (by omega) (by omega) (by omega) (by rw [hby]; omega) fun c' zs' h1 h2 => ?_
      have hfx : (flat [x]).length = 1 := by simpa [flat, D.width] using hx
      have hfB : (flat (es.take i)).length = i * 1 := by rw [dflat_length fun d hd => hw d (List.mem_of_mem_take hd), List.length_take]; congr 1; omega
      have hfC : (flat (es.drop i)).length = (es.length - i) * 1 := by rw [dflat_length fun d hd => hw d (List.mem_of_mem_drop hd), List.length_drop]
      rw [hsz] at h2
      (simp (disch := first | decide | omega | (simp only [nx]; first | done | omega)) only [go_sem, winOff_lt]; (repeat with_reducible refine aI ?_))
      have hmin : Nat.min 1 (i + (es.length + 1 - i) - i) = 1 := by show min _ _ = _; omega
      have hzl : 1 ≤ zs'.length := by rw [List.length_append, hfB] at h2; omega
      refine dcopy_win heT hiS (m := 1) (cs := flat (es.take i) ++ zs') (bt := 9) (news := flat [x]) (by (first | (simp (disch := first | decide | omega | (simp only [nx]; first | done | omega)) only [go_sem]; first | done | rfl) | rfl)) (srcOk_one (by rw [hsz]; exact hx)) (by rw [hsz, h2, hmin]; omega) (cs' := flat (es.take i) ++ flat [x] ++ zs'.drop 1) (by rw [hsz, hmin, List.take_of_length_le (l := flat [x]) (by omega), splice_at (by rw [hfB]), hfx]) ?_
      (simp (disch := first | decide | omega | (simp only [nx]; first | done | omega)) only [go_sem, winOff_lt, hwr3]; (repeat with_reducible refine aI ?_))
      refine ddraw_mk 8 (by kernel_rfl) ?_
      (simp (disch := first | decide | omega | (simp only [nx]; first | done | omega)) only [go_sem, winOff_lt, hwr3]; (repeat with_reducible refine aI ?_))
      have hmin2 : Nat.min (es.length - i) (i + (es.length + 1 - i) - (i + 1)) = es.length - i := by show min _ _ = _; omega
      have hso2 := srcOk_own (S := (S.add (.box 9 (flat (es.take i) ++ zs'))).set S.next (.box 9 (flat (es.take i) ++ flat [x] ++ zs'.drop 1))) (l := i) (n := es.length - i) (c' := c - i) (k := k) (c := c) (e := 9) (es := es) (zs := zs) (z := 1) (by (first | (simp (disch := first | decide | omega | (simp only [nx]; first | done | omega)) only [go_sem, hk0]; first | done | rfl) | rfl)) hc hw (by omega)
      rw [List.take_of_length_le (l := es.drop i) (by rw [List.length_drop]; omega)] at hso2
      refine dcopy_win heT hiS (m := es.length - i) (cs := flat (es.take i) ++ flat [x] ++ zs'.drop 1) (bt := 9) (news := flat (es.drop i)) (by (first | (simp (disch := first | decide | omega | (simp only [nx]; first | done | omega)) only [go_sem]; first | done | rfl) | rfl)) (by rw [hsz]; exact hso2) (by rw [hsz, hmin2]; simp only [List.length_append, hfB, hfx, List.length_drop]; rw [List.length_append, hfB] at h2; omega) (cs' := flat (es.take i ++ [x] ++ es.drop i) ++ (zs'.drop 1).drop ((es.length - i) * 1)) (by rw [hsz, hmin2, List.take_of_length_le (l := flat (es.drop i)) (by omega), splice_at (by rw [List.length_append, hfB, hfx]; omega), hfC, flat_append, flat_append]) ?_
      (simp (disch := first | decide | omega | (simp only [nx]; first | done | omega)) only [go_sem]; (repeat with_reducible refine aI ?_))
      refine ⟨_, _, thaw_drop k _, ?_⟩
      rw [St.add_set, St.add_set, St.add_drop _ _ hkn]
      have e1 : i + (es.length + 1 - i) = es.length + 1 := by omega
      rw [e1] at h1 ⊢
      have := h c' (List.drop ((es.length - i) * 1) (List.drop 1 zs')) h1 (by
        simp only [List.length_append, flat_append, hfB, hfC, hfx, List.length_drop]
        rw [List.length_append, hfB] at h2
        omega)
      rw [ownOb_box (by omega)] at this
      exact this
    · have b2 : decide ((c : Int) < ((es.length + 1 : Nat) : Int)) = false := by simp; omega
      have hwr3 : IntKind.i64.wrap ((i : Int) + ((1 : Nat) : Int)) = ((i + 1 : Nat) : Int) := by rw [IntKind.wrap_i64]; omega
      (simp (disch := first | decide | omega | (simp only [nx]; first | done | omega)) only [go_sem, hwr, hwr3, h10, b1, b2, winOff_lt]; (repeat with_reducible refine aI ?_))
      refine doverlaps (tr := 4) Tryz.func69 (by kernel_rfl) (by kernel_rfl) (by kernel_rfl) (by kernel_rfl) heT hiS hk (fun e => by rw [e] at hl; simp at hl; omega) ?_
      (simp (disch := first | decide | omega | (simp only [nx]; first | done | omega)) only [go_sem, winOff_lt]; (repeat with_reducible refine aI ?_))
      refine ddraw_mk 8 (by kernel_rfl) ?_
      (simp (disch := first | decide | omega | (simp only [nx]; first | done | omega)) only [go_sem, winOff_lt, hwr3]; (repeat with_reducible refine aI ?_))
      have hfx : (flat [x]).length = 1 := by simpa [flat, D.width] using hx
      have hfB : (flat (es.take i)).length = i * 1 := by rw [dflat_length fun d hd => hw d (List.mem_of_mem_take hd), List.length_take]; congr 1; omega
      have hfC : (flat (es.drop i)).length = (es.length - i) * 1 := by rw [dflat_length fun d hd => hw d (List.mem_of_mem_drop hd), List.length_drop]
      have hff : flat es = flat (es.take i) ++ flat (es.drop i) := by rw [← flat_append, List.take_append_drop]
      have hzl : 1 ≤ zs.length := by rw [List.length_append, hff, List.length_append, hfB, hfC] at hl; omega
      have hmin : Nat.min (es.length + 1 - i) (es.length + 1 - (i + 1)) = es.length - i := by show min _ _ = _; omega
      obtain ⟨cs1, hcs1⟩ : ∃ cs1, splice (flat es ++ zs) ((i + 1) * 1) (flat (es.drop i)) = cs1 := ⟨_, rfl⟩
      have hcl : cs1.length = c * 1 := by rw [← hcs1, splice_len, hl]; rw [hl, hfC]; omega
      refine dcopy_win heT hiS (m := es.length + 1 - i) hk (srcOk_win hk (by rw [hsz, hl]; omega)) (by rw [hsz, hmin, hl]; omega) (cs' := cs1) (by
        rw [hsz, hmin, ← hcs1, List.take_take, Nat.min_eq_left (by omega), List.drop_append_of_le_length (by rw [hff, List.length_append, hfB]; omega), flat_drop hw, List.take_append_of_le_length (by omega), List.take_of_length_le (by omega)]) ?_
      (simp (disch := first | decide | omega | (simp only [nx]; first | done | omega)) only [go_sem, winOff_lt, hwr3]; (repeat with_reducible refine aI ?_))
      have hmin2 : Nat.min 1 (es.length + 1 - i) = 1 := by show min _ _ = _; omega
      refine dcopy_win heT hiS (m := 1) (cs := cs1) (bt := 9) (news := flat [x]) (by (first | (simp (disch := first | decide | omega | (simp only [nx]; first | done | omega)) only [go_sem]; first | done | rfl) | rfl)) (srcOk_one (by rw [hsz]; exact hx)) (by rw [hsz, hmin2, hcl]; omega) (cs' := flat (es.take i ++ [x] ++ es.drop i) ++ zs.drop 1) (by rw [hsz, hmin2, List.take_of_length_le (l := flat [x]) (by omega), ← hcs1, hff, ins_old (by rw [hfB]) (by rw [hfB, hfx]; omega) (by omega), hfx, flat_append, flat_append]) ?_
      (simp (disch := first | decide | omega | (simp only [nx]; first | done | omega)) only [go_sem]; (repeat with_reducible refine aI ?_))
      rw [St.set_set]
      refine ⟨_, _, thaw_rename (o := .box 9 (flat (es.take i ++ [x] ++ es.drop i) ++ zs.drop 1)) (by simp [St.set]), ?_⟩
      rw [St.set_drop]
      have := h c (zs.drop 1) (by omega) (by
        simp only [List.length_append, flat_append, hfB, hfC, hfx, List.length_drop]
        rw [List.length_append, hff, List.length_append, hfB, hfC] at hl
        omega)
      rw [ownOb_box (by omega)] at this
      exact this

set_option maxHeartbeats 4000000 in
set_option maxRecDepth 20000 in
theorem ins_val {S : St} {k c i n : Nat} {es zs : List D} {x : D} {o : Own} {K : D → St → Prop} (hk : S.ob k = some (ownOb 26 es zs c)) (hl : (flat es ++ zs).length = c * 6) (hw : ∀ d ∈ es, d.width = 6) (hx : x.width = 6) (hi : i ≤ es.length) (hn : es.length ≤ 1073741824) (hkn : k < S.next) (hnn : n = es.length)
    (h : ∀ (c' : Nat) (zs' : List D), es.length + 1 ≤ c' → (flat (es.take i ++ [x] ++ es.drop i) ++ zs').length = c' * 6 → K (.win S.next 0 (n + 1) c') ((S.drop k).add (ownOb 26 (es.take i ++ [x] ++ es.drop i) zs' c'))) :
    DCalls Tryz.prog 49 [.win k 0 n c, .v (.int .i64 i), .sl o [x]] S K := by
  subst hnn
  have hc := ownOb_len hw (by omega) hl
  have heT : elT Tryz.prog 24 = some 26 := by kernel_rfl
  have heS : (elT Tryz.prog 24).isSome = true := by rw [heT]; rfl
  have hsz : szOf Tryz.prog 26 = 6 := by kernel_rfl
  have hby : bytesOf Tryz.prog 26 = 104 := by kernel_rfl
  have hzT : zeroT Tryz.prog 26 = true := by kernel_rfl
  have hzO : zeroOk Tryz.prog 26 = true := by kernel_rfl
  have hiS := (zeroT_pos hzT).2
  refine DCalls.thaw ?_
  refine dcalls_inline mixed Tryz.func49 rfl (fun _ _ => by kernel_rfl) (rs := [.tmp 6]) rfl (by kernel_rfl) (fun hS => ?_)
  have hwr : IntKind.i64.wrap ((es.length : Int) + ((1 : Nat) : Int)) = ((es.length + 1 : Nat) : Int) := by rw [IntKind.wrap_i64]; omega
  have h10 : (((1 : Nat) : Int) == 0) = false := by decide
  by_cases hin : i = es.length
  · subst hin
    have b1 : ((es.length : Int) == (es.length : Int)) = true := by simp
    (simp (disch := first | decide | omega | (simp only [nx]; first | done | omega)) only [go_sem, hwr, h10, b1]; (repeat with_reducible refine aI ?_))
    refine dappend_own heT heS hzT hzO hk (by rw [hsz]; exact hl) (by rw [hsz]; exact hw) (es2 := [x]) (srcOk_one (by rw [hsz]; exact hx)) rfl (by simp; omega) (by rw [hby]; simp; omega) hkn fun c' zs' h1 h2 => ?_
    (simp (disch := first | decide | omega | (simp only [nx]; first | done | omega)) only [go_sem]; (repeat with_reducible refine aI ?_))
    refine ⟨_, _, Thaw.refl _ _ _, ?_⟩
    have := h c' zs' h1
    rw [List.take_of_length_le (Nat.le_refl _), List.drop_of_length_le (Nat.le_refl _), List.append_nil] at this
    exact this (by rw [hsz] at h2; exact h2)
  · have b1 : ((i : Int) == (es.length : Int)) = false := by simp; omega
    have hcap : 0 < c := by omega
    have hk0 := hk
    rw [ownOb_box hcap] at hk
    by_cases hgr : c < es.length + 1
    · have b2 : decide ((c : Int) < ((es.length + 1 : Nat) : Int)) = true := by simp; omega
      have hwr2 : IntKind.i64.wrap (((es.length + 1 : Nat) : Int) - (i : Int)) = ((es.length + 1 - i : Nat) : Int) := by rw [IntKind.wrap_i64]; omega
      have hwr3 : IntKind.i64.wrap ((i : Int) + ((1 : Nat) : Int)) = ((i + 1 : Nat) : Int) := by rw [IntKind.wrap_i64]; omega
      (simp (disch := first | decide | omega | (simp only [nx]; first | done | omega)) only [go_sem, hwr, h10, b1, b2, hwr2]; (repeat with_reducible refine aI ?_))
      have hso := srcOk_own0 (c' := c) hk0 hc hw hi
      refine dappend_zeros heT (kk := .i64) (by kernel_rfl) hzT hzO hso (by omega) (by omega) (by omega) (by rw [hby]; omega) fun c' zs' h1 h2 => ?_
      have hfx : (flat [x]).length = 6 := by simpa [flat, D.width] using hx
      have hfB : (flat (es.take i)).length = i * 6 := by rw [dflat_length fun d hd => hw d (List.mem_of_mem_take hd), List.length_take]; congr 1; omega
      have hfC : (flat (es.drop i)).length = (es.length - i) * 6 := by rw [dflat_length fun d hd => hw d (List.mem_of_mem_drop hd), List.length_drop]
      rw [hsz] at h2
      (simp (disch := first | decide | omega | (simp only [nx]; first | done | omega)) only [go_sem, winOff_lt]; (repeat with_reducible refine aI ?_))
      have hmin : Nat.min 1 (i + (es.length + 1 - i) - i) = 1 := by show min _ _ = _; omega
      have hzl : 6 ≤ zs'.length := by rw [List.length_append, hfB] at h2; omega
      refine dcopy_win heT hiS (m := 1) (cs := flat (es.take i) ++ zs') (bt := 26) (news := flat [x]) (by (first | (simp (disch := first | decide | omega | (simp only [nx]; first | done | omega)) only [go_sem]; first | done | rfl) | rfl)) (srcOk_one (by rw [hsz]; exact hx)) (by rw [hsz, h2, hmin]; omega) (cs' := flat (es.take i) ++ flat [x] ++ zs'.drop 6) (by rw [hsz, hmin, List.take_of_length_le (l := flat [x]) (by omega), splice_at (by rw [hfB]), hfx]) ?_
      (simp (disch := first | decide | omega | (simp only [nx]; first | done | omega)) only [go_sem, winOff_lt, hwr3]; (repeat with_reducible refine aI ?_))
      refine ddraw_mk 8 (by kernel_rfl) ?_
      (simp (disch := first | decide | omega | (simp only [nx]; first | done | omega)) only [go_sem, winOff_lt, hwr3]; (repeat with_reducible refine aI ?_))
      have hmin2 : Nat.min (es.length - i) (i + (es.length + 1 - i) - (i + 1)) = es.length - i := by show min _ _ = _; omega
      have hso2 := srcOk_own (S := (S.add (.box 26 (flat (es.take i) ++ zs'))).set S.next (.box 26 (flat (es.take i) ++ flat [x] ++ zs'.drop 6))) (l := i) (n := es.length - i) (c' := c - i) (k := k) (c := c) (e := 26) (es := es) (zs := zs) (z := 6) (by (first | (simp (disch := first | decide | omega | (simp only [nx]; first | done | omega)) only [go_sem, hk0]; first | done | rfl) | rfl)) hc hw (by omega)
      rw [List.take_of_length_le (l := es.drop i) (by rw [List.length_drop]; omega)] at hso2
      refine dcopy_win heT hiS (m := es.length - i) (cs := flat (es.take i) ++ flat [x] ++ zs'.drop 6) (bt := 26) (news := flat (es.drop i)) (by (first | (simp (disch := first | decide | omega | (simp only [nx]; first | done | omega)) only [go_sem]; first | done | rfl) | rfl)) (by rw [hsz]; exact hso2) (by rw [hsz, hmin2]; simp only [List.length_append, hfB, hfx, List.length_drop]; rw [List.length_append, hfB] at h2; omega) (cs' := flat (es.take i ++ [x] ++ es.drop i) ++ (zs'.drop 6).drop ((es.length - i) * 6)) (by rw [hsz, hmin2, List.take_of_length_le (l := flat (es.drop i)) (by omega), splice_at (by rw [List.length_append, hfB, hfx]; omega), hfC, flat_append, flat_append]) ?_
      (simp (disch := first | decide | omega | (simp only [nx]; first | done | omega)) only [go_sem]; (repeat with_reducible refine aI ?_))
      refine ⟨_, _, thaw_drop k _, ?_⟩
      rw [St.add_set, St.add_set, St.add_drop _ _ hkn]
      have e1 : i + (es.length + 1 - i) = es.length + 1 := by omega
      rw [e1] at h1 ⊢
      have := h c' (List.drop ((es.length - i) * 6) (List.drop 6 zs')) h1 (by
        simp only [List.length_append, flat_append, hfB, hfC, hfx, List.length_drop]
        rw [List.length_append, hfB] at h2
        omega)
      rw [ownOb_box (by omega)] at this
      exact this
    · have b2 : decide ((c : Int) < ((es.length + 1 : Nat) : Int)) = false := by simp; omega
      have hwr3 : IntKind.i64.wrap ((i : Int) + ((1 : Nat) : Int)) = ((i + 1 : Nat) : Int) := by rw [IntKind.wrap_i64]; omega
      (simp (disch := first | decide | omega | (simp only [nx]; first | done | omega)) only [go_sem, hwr, hwr3, h10, b1, b2, winOff_lt]; (repeat with_reducible refine aI ?_))
      refine doverlaps (tr := 4) Tryz.func71 (by kernel_rfl) (by kernel_rfl) (by kernel_rfl) (by kernel_rfl) heT hiS hk (fun e => by rw [e] at hl; simp at hl; omega) ?_
      (simp (disch := first | decide | omega | (simp only [nx]; first | done | omega)) only [go_sem, winOff_lt]; (repeat with_reducible refine aI ?_))
      refine ddraw_mk 8 (by kernel_rfl) ?_
      (simp (disch := first | decide | omega | (simp only [nx]; first | done | omega)) only [go_sem, winOff_lt, hwr3]; (repeat with_reducible refine aI ?_))
      have hfx : (flat [x]).length = 6 := by simpa [flat, D.width] using hx
      have hfB : (flat (es.take i)).length = i * 6 := by rw [dflat_length fun d hd => hw d (List.mem_of_mem_take hd), List.length_take]; congr 1; omega
      have hfC : (flat (es.drop i)).length = (es.length - i) * 6 := by rw [dflat_length fun d hd => hw d (List.mem_of_mem_drop hd), List.length_drop]
      have hff : flat es = flat (es.take i) ++ flat (es.drop i) := by rw [← flat_append, List.take_append_drop]
      have hzl : 6 ≤ zs.length := by rw [List.length_append, hff, List.length_append, hfB, hfC] at hl; omega
      have hmin : Nat.min (es.length + 1 - i) (es.length + 1 - (i + 1)) = es.length - i := by show min _ _ = _; omega
      obtain ⟨cs1, hcs1⟩ : ∃ cs1, splice (flat es ++ zs) ((i + 1) * 6) (flat (es.drop i)) = cs1 := ⟨_, rfl⟩
      have hcl : cs1.length = c * 6 := by rw [← hcs1, splice_len, hl]; rw [hl, hfC]; omega
      refine dcopy_win heT hiS (m := es.length + 1 - i) hk (srcOk_win hk (by rw [hsz, hl]; omega)) (by rw [hsz, hmin, hl]; omega) (cs' := cs1) (by
        rw [hsz, hmin, ← hcs1, List.take_take, Nat.min_eq_left (by omega), List.drop_append_of_le_length (by rw [hff, List.length_append, hfB]; omega), flat_drop hw, List.take_append_of_le_length (by omega), List.take_of_length_le (by omega)]) ?_
      (simp (disch := first | decide | omega | (simp only [nx]; first | done | omega)) only [go_sem, winOff_lt, hwr3]; (repeat with_reducible refine aI ?_))
      have hmin2 : Nat.min 1 (es.length + 1 - i) = 1 := by show min _ _ = _; omega
      refine dcopy_win heT hiS (m := 1) (cs := cs1) (bt := 26) (news := flat [x]) (by (first | (simp (disch := first | decide | omega | (simp only [nx]; first | done | omega)) only [go_sem]; first | done | rfl) | rfl)) (srcOk_one (by rw [hsz]; exact hx)) (by rw [hsz, hmin2, hcl]; omega) (cs' := flat (es.take i ++ [x] ++ es.drop i) ++ zs.drop 6) (by rw [hsz, hmin2, List.take_of_length_le (l := flat [x]) (by omega), ← hcs1, hff, ins_old (by rw [hfB]) (by rw [hfB, hfx]; omega) (by omega), hfx, flat_append, flat_append]) ?_
      (simp (disch := first | decide | omega | (simp only [nx]; first | done | omega)) only [go_sem]; (repeat with_reducible refine aI ?_))
      rw [St.set_set]
      refine ⟨_, _, thaw_rename (o := .box 26 (flat (es.take i ++ [x] ++ es.drop i) ++ zs.drop 6)) (by simp [St.set]), ?_⟩
      rw [St.set_drop]
      have := h c (zs.drop 6) (by omega) (by
        simp only [List.length_append, flat_append, hfB, hfC, hfx, List.length_drop]
        rw [List.length_append, hff, List.length_append, hfB, hfC] at hl
        omega)
      rw [ownOb_box (by omega)] at this
      exact this

end Go.Proofs.YtbcabejdchkpmaaGreatDoor

namespace Go.Proofs.YtbcabejdchkpmaaGreatDoor
open Go.RowKit
theorem wVs (l : List DVal) : ∀ d ∈ l.map encV, d.width = 6 := fun d hd => by obtain ⟨p, _, rfl⟩ := List.mem_map.1 hd; exact cells_encV _
theorem wSs (l : List Str) : ∀ d ∈ l.map strD, d.width = 1 := fun d hd => by obtain ⟨p, _, rfl⟩ := List.mem_map.1 hd; rfl
theorem wUs (l : List Nat) : ∀ d ∈ l.map u64D, d.width = 1 := fun d hd => by obtain ⟨p, _, rfl⟩ := List.mem_map.1 hd; rfl
theorem szV : szOf Tryz.prog 26 = 6 := by kernel_rfl
theorem szS : szOf Tryz.prog 9 = 1 := by kernel_rfl
theorem szU : szOf Tryz.prog 54 = 1 := by kernel_rfl
theorem byV : bytesOf Tryz.prog 26 = 104 := by kernel_rfl
theorem byS : bytesOf Tryz.prog 9 = 16 := by kernel_rfl
theorem byU : bytesOf Tryz.prog 54 = 8 := by kernel_rfl
set_option maxRecDepth 200000 in
set_option maxHeartbeats 4000000 in
theorem parts_o (l : List DVal) (hl : l.length ≤ 1000000) (h : ∀ p ∈ l, DPure Tryz.prog 43 [encV p] (encV p)) {S : St} {K : D → St → Prop}
    (hK : ∀ T k c zs, S.Sub T → T.WF → S.next ≤ k → k < T.next → T.ob k = some (ownOb 26 (l.map encV) zs c) → (flat (l.map encV) ++ zs).length = c * 6 → K (.win k 0 l.length c) T) :
    DCalls Tryz.prog 68 [.sl .no (l.map encV), .fn (.func 43) [] []] S K := by
  refine DCalls.thaw ?_
  refine dcalls_inline mixed Tryz.func68 rfl (fun _ _ => by kernel_rfl) (rs := [.tmp 4]) rfl (by kernel_rfl) (fun hS => ?_)
  (simp (disch := first | decide | omega | (simp only [nx]; first | done | omega)) only [go_sem]; (repeat with_reducible refine aI ?_))
  refine dloop_up (fun t => List.contains [5, 6, 7, 10, 11, 12, 13, 14, 15, 16, 17, 18, 19, 20] t) (by kernel_rfl) hS l.length (fun i g T => i ≤ l.length ∧ g 10 = .v (.int .i64 ((i : Nat) : Int)) ∧ OwnD Tryz.prog T 26 ((l.take i).map encV) (g 5) ∧ (∀ k o n c, g 5 = .win k o n c → S.next ≤ k) ∧ S.Sub T) ⟨by omega, by (first | (simp (disch := first | decide | omega | (simp only [nx]; first | done | omega)) only [go_sem]; first | done | rfl) | rfl), .inl ⟨by simp, by (first | (simp (disch := first | decide | omega | (simp only [nx]; first | done | omega)) only [go_sem]; first | done | rfl) | rfl)⟩, (fun k o n c e => by simp (disch := first | decide | omega | (simp only [nx]; first | done | omega)) only [go_sem] at e; cases e), St.Sub.refl S⟩ ?_
  rintro i g T hT hg ⟨le, q10, hO, hlo, hs⟩
  have q8 := hg 8 rfl
  have q1 := hg 1 rfl
  have q9 := hg 9 rfl
  simp (disch := first | decide | omega | (simp only [nx]; first | done | omega)) only [go_sem] at q8 q9 q1
  clear hg
  by_cases hlt : i < l.length
  · have b1 : decide ((i : Int) < (l.length : Int)) = true := by simp; omega
    have w1 : IntKind.i64.wrap ((i : Int) + 1) = ((i + 1 : Nat) : Int) := IntWalk.i64_in _ ⟨by omega, by omega⟩
    (simp (disch := first | decide | omega | (simp only [nx]; first | done | omega)) only [go_sem, q8, q9, q1, q10, b1]; (repeat with_reducible refine aI ?_))
    refine DCalls.of_pure (h l[i] (List.getElem_mem hlt)) ?_
    (simp (disch := first | decide | omega | (simp only [nx]; first | done | omega)) only [go_sem, q1, q10, w1, St.add_set]; (repeat with_reducible refine aI ?_))
    have hs1 : T.Sub (T.add (.box 26 (encV l[i]).cells)) := St.Sub.add (St.Sub.refl _) hT _
    refine dapp_ownD (es := (l.take i).map encV) (es2 := [encV l[i]]) (by (first | (simp (disch := first | decide | omega | (simp only [nx]; first | done | omega)) only [go_sem]; first | done | rfl) | rfl)) (by (first | (simp (disch := first | decide | omega | (simp only [nx]; first | done | omega)) only [go_sem]; first | done | rfl) | rfl)) (by (first | (simp (disch := first | decide | omega | (simp only [nx]; first | done | omega)) only [go_sem]; first | done | rfl) | rfl)) (by (first | (simp (disch := first | decide | omega | (simp only [nx]; first | done | omega)) only [go_sem]; first | done | rfl) | rfl)) (hO.mono hs1) (by rw [szV]; exact wVs _) (by rw [szV]; exact wVs [l[i]]) (by simp; omega) (by rw [byV]; simp; omega) fun c' zs' h2 => ?_
    rw [szV] at h2
    (simp (disch := first | decide | omega | (simp only [nx]; first | done | omega)) only [go_sem, q1, q10, w1]; (repeat with_reducible refine aI ?_))
    have hli : (l.take i).length = i := by rw [List.length_take]; omega
    have hsl := OwnD.sub (P := Tryz.prog) hS (hs.trans hs1) (hO.mono hs1) hlo
    have hwf := (hT.add (.box 26 (encV l[i]).cells)).left (g 5)
    have e1 : (l.take i).map encV ++ [encV l[i]] = (l.take (i + 1)).map encV := by rw [List.take_succ_eq_append_getElem hlt, List.map_append]; rfl
    have hl1 : (l.take (i + 1)).length = i + 1 := by rw [List.length_take]; omega
    have hsn := hs.next
    refine ⟨hlt, _, fun _ _ h => h, by omega, by (first | (simp (disch := first | decide | omega | (simp only [nx]; first | done | omega)) only [go_sem]; first | done | rfl) | rfl), .inr ⟨T.next + 1, c', zs', by simp (disch := first | decide | omega | (simp only [nx]; first | done | omega)) only [go_sem]; rw [hli, hl1], ?_, ?_, ?_⟩, ?_, ?_⟩
    · show (if T.next + 1 = ((T.add _).left _).next then _ else _) = _
      rw [left_next, add_next, if_pos rfl, e1]
    · rw [szV, ← e1]; exact h2
    · show T.next + 1 < ((T.add _).left _).next + 1
      rw [left_next, add_next]; omega
    · intro k o n c e
      simp (disch := first | decide | omega | (simp only [nx]; first | done | omega)) only [go_sem] at e
      injection e with e _ _ _
      omega
    · exact hsl.add hS _
  · have b1 : decide ((i : Int) < (l.length : Int)) = false := by simp; omega
    (simp (disch := first | decide | omega | (simp only [nx]; first | done | omega)) only [go_sem, q8, q9, q1, q10, b1]; (repeat with_reducible refine aI ?_))
    have hil : i = l.length := by omega
    rw [hil, List.take_of_length_le (Nat.le_refl _)] at hO
    obtain ⟨S1, k, c, zs, k1, k2, k3, k4, k5, k6⟩ := hO.win
    refine ⟨S1, _, k1, ?_⟩
    rw [List.length_map]
    have hsn := hs.next
    have hlk : S.next ≤ k := by
      rcases k6 with ⟨o, n, c', e⟩ | rfl
      · exact hlo _ _ _ _ e
      · exact hsn
    rcases k2 with rfl | rfl
    · exact hK _ k c zs hs hT hlk k5 k3 (by rw [← szV]; exact k4)
    · exact hK _ k c zs (hs.add hS _) (hT.add _) hlk k5 k3 (by rw [← szV]; exact k4)
def ownV (v : DVal) (a b c ca cb cc : Nat) : D := .agg [.v (.int .i64 v.kind), .v (.int .i64 v.n), .v (sv v.s), .win a 0 v.names.length ca, .win b 0 v.ids.length cb, .win c 0 v.parts.length cc]
structure OV (T : St) (v : DVal) (a b c ca cb cc : Nat) (zn zi zp : List D) : Prop where
  obn : T.ob a = some (ownOb 9 (v.names.map strD) zn ca)
  ln : (flat (v.names.map strD) ++ zn).length = ca * 1
  obi : T.ob b = some (ownOb 54 (v.ids.map u64D) zi cb)
  li : (flat (v.ids.map u64D) ++ zi).length = cb * 1
  obp : T.ob c = some (ownOb 26 (v.parts.map encV) zp cc)
  lp : (flat (v.parts.map encV) ++ zp).length = cc * 6
  ab : a ≠ b
  ac : a ≠ c
  bc : b ≠ c
set_option maxRecDepth 200000 in
set_option maxHeartbeats 4000000 in
theorem copy_o (v : DVal) (hw : v.weight ≤ 1000000) {S : St} {K : D → St → Prop}
    (hK : ∀ T a b c ca cb cc zn zi zp, S.Sub T → T.WF → S.next ≤ a → S.next ≤ b → S.next ≤ c → OV T v a b c ca cb cc zn zi zp → K (ownV v a b c ca cb cc) T) :
    DCalls Tryz.prog 43 [encV v] S K := by
  have hwe := v.weight_eq
  have hpl := partsLen v
  refine dcalls_inline mixed Tryz.func43 rfl (fun _ _ => by kernel_rfl) (rs := [.cell 2 26]) rfl (by kernel_rfl) (fun hS => ?_)
  (simp (disch := first | decide | omega | (simp only [nx]; first | done | omega)) only [go_sem, encV_eq v]; (repeat with_reducible refine aI ?_))
  have heS : elT Tryz.prog 22 = some 9 := by kernel_rfl
  have heU : elT Tryz.prog 23 = some 54 := by kernel_rfl
  refine ddraw_cut (fun g T => g 1 = .loc S.next 0 ∧ g 2 = .loc (S.next + 1) 0 ∧ ∃ a b ca cb zn zi, T.ob S.next = some (.box 26 [.v (.int .i64 v.kind), .v (.int .i64 v.n), .v (sv v.s), .win a 0 v.names.length ca, .win b 0 v.ids.length cb, .sl .no (v.parts.map encV)]) ∧ T.ob (S.next + 1) = some (.box 26 [.v (.int .i64 0), .v (.int .i64 0), .v (.string ⟨#[]⟩), .sl .full [], .sl .full [], .sl .full []]) ∧ S.Sub T ∧ T.WF ∧ S.next + 2 ≤ a ∧ S.next + 2 ≤ b ∧ a < T.next ∧ b < T.next ∧ a ≠ b ∧
    T.ob a = some (ownOb 9 (v.names.map strD) zn ca) ∧ (flat (v.names.map strD) ++ zn).length = ca * 1 ∧ T.ob b = some (ownOb 54 (v.ids.map u64D) zi cb) ∧ (flat (v.ids.map u64D) ++ zi).length = cb * 1) ?_ ?_
  · refine ddraw_any (fun T => T.ob S.next = some (.box 26 [.v (.int .i64 v.kind), .v (.int .i64 v.n), .v (sv v.s), .sl .no (v.names.map strD), .sl .no (v.ids.map u64D), .sl .no (v.parts.map encV)])) 7 (by (first | (simp (disch := first | decide | omega | (simp only [nx]; first | done | omega)) only [go_sem, strD]; first | done | rfl) | rfl)) (by kernel_rfl) ?_
    (refine s_take 0 rfl (by kernel_rfl) (by kernel_rfl) (v := ?v1) (fun S' hz => dquietR_of ?h1) <| s_take 1 rfl (by kernel_rfl) (by kernel_rfl) (v := ?v2) (fun S' hz => dquietR_of ?h2) <| s_take 3 rfl (by kernel_rfl) (by kernel_rfl) (v := ?v3) (fun S' hz => dquietR_of ?h3) <| s_take 4 rfl (by kernel_rfl) (by kernel_rfl) (v := ?v4) (fun S' hz => dquietR_of ?h4) <| ?k4; (case h1 | h2 | h3 | h4 => ((simp (disch := first | decide | omega | (simp only [nx]; first | done | omega)) only [go_sem, hz]; (repeat with_reducible refine aI ?_)); first | done | exact rfl | omega)))
    (refine s_split [2] (by kernel_rfl) (by simp) ?_; intro j_ hj_; obtain rfl : j_ = 2 := (by simpa using hj_); clear hj_; refine s_op rfl ?_; (simp (disch := first | decide | omega | (simp only [nx]; first | done | omega)) only [go_sem]; (repeat with_reducible refine aI ?_)))
    refine dapp_nil heS (dappend_fresh heS (by rw [heS]; rfl) (by kernel_rfl) (by kernel_rfl) (es2 := v.names.map strD) (srcOk_sl (by rw [szS]; exact wSs _)) rfl (by rw [List.length_map]; omega) (by rw [byS, List.length_map]; omega) fun ca zn _ hln => ?_)
    rw [szS] at hln
    rw [List.length_map]
    refine ⟨by (first | (simp (disch := first | decide | omega | (simp only [nx]; first | done | omega)) only [go_sem]; first | done | rfl) | rfl), ?_⟩
    (refine s_take 6 rfl (by kernel_rfl) (by kernel_rfl) (v := ?v5) (fun S' hz => dquietR_of ?h5) ?k5; (case h5 => ((simp (disch := first | decide | omega | (simp only [nx]; first | done | omega)) only [go_sem, hz]; (repeat with_reducible refine aI ?_)); first | done | exact rfl | omega)))
    (refine s_split [5] (by kernel_rfl) (by simp) ?_; intro j_ hj_; obtain rfl : j_ = 5 := (by simpa using hj_); clear hj_; refine s_op rfl ?_; (simp (disch := first | decide | omega | (simp only [nx]; first | done | omega)) only [go_sem]; (repeat with_reducible refine aI ?_)))
    refine dapp_nil heU (dappend_fresh heU (by rw [heU]; rfl) (by kernel_rfl) (by kernel_rfl) (es2 := v.ids.map u64D) (srcOk_sl (by rw [szU]; exact wUs _)) rfl (by rw [List.length_map]; omega) (by rw [byU, List.length_map]; omega) fun cb zi _ hli => ?_)
    rw [szU] at hli
    rw [List.length_map]
    refine ⟨by (first | (simp (disch := first | decide | omega | (simp only [nx]; first | done | omega)) only [go_sem]; first | done | rfl) | rfl), ?_⟩
    (refine s_done (by kernel_rfl) ?_; (simp (disch := first | decide | omega | (simp only [nx]; first | done | omega)) only [go_sem]; (repeat with_reducible refine aI ?_)))
    refine ⟨_, _, _, _, zn, zi, rfl, ?_, ?_, by omega, by omega, ?_, ?_, by omega, ?_, hln, ?_, hli⟩
    · exact (by (repeat' first | assumption | exact St.Sub.refl _ | exact RowOk.sub (by assumption) (by assumption) | refine St.Sub.trans ?_ (RowOk.sub (by assumption) (by assumption)) | refine St.Sub.add ?_ ?_ _ | refine St.Sub.set ?_ ?_ ?_ _ | refine St.Sub.keep ?_ ?_ | refine St.WF.leave ?_ _ | refine St.WF.add ?_ _ | refine St.WF.set ?_ ?_ _ | refine St.WF.grow ?_ _ _ _ | refine St.WF.keep ?_ ?_ | (first | omega | (simp only [RowOk.lo, nx]; first | done | omega))))
    · exact (by (repeat' first | assumption | refine St.WF.leave ?_ _ | refine St.WF.add ?_ _ | refine St.WF.set ?_ ?_ _ | refine St.WF.grow ?_ _ _ _ | refine St.WF.keep ?_ ?_ | (first | omega | (simp only [RowOk.lo, nx]; first | done | omega))))
    · omega
    · omega
    · (first | (simp (disch := first | decide | omega | (simp only [nx]; first | done | omega)) only [go_sem]; first | done | rfl) | rfl)
    · (first | (simp (disch := first | decide | omega | (simp only [nx]; first | done | omega)) only [go_sem]; first | done | rfl) | rfl)
  · rintro g T ⟨q1, q2, a, b, ca, cb, zn, zi, t0, t1, hs, hT, ha, hb, ha', hb', hab, hn1, hn2, hi1, hi2⟩
    (simp (disch := first | decide | omega | (simp only [nx]; first | done | omega)) only [go_sem, q1, q2, t0, t1]; (repeat with_reducible refine aI ?_))
    refine parts_o v.parts (by omega) (fun p hp => copyV_d p.depth p (Nat.le_refl _) (by have := DVal.weight_part hp; omega)) fun T1 c cc zp hs1 hT1 hc1 hc2 hp1 hp2 => ?_
    have u0 := hs1.ob _ _ t0
    have u1 := hs1.ob _ _ t1
    have ua := hs1.ob _ _ hn1
    have ub := hs1.ob _ _ hi1
    (simp (disch := first | decide | omega | (simp only [nx]; first | done | omega)) only [go_sem, q1, q2, u0, u1]; (repeat with_reducible refine aI ?_))
    have hsn := hs.next
    have hsn1 := hs1.next
    have hst : S.Sub T1 := hs.trans hs1
    refine hK _ a b c ca cb cc zn zi zp ?_ ?_ (by omega) (by omega) (by omega) ⟨?_, hn2, ?_, hi2, ?_, hp2, hab, by omega, by omega⟩
    · exact (hst.set hS (Nat.le_refl _) _).set hS (by omega) _
    · exact (hT1.set (by omega) _).set (by show S.next + 1 < T1.next; omega) _
    · (first | (simp (disch := first | decide | omega | (simp only [nx]; first | done | omega)) only [go_sem, ua]; first | done | rfl) | rfl)
    · (first | (simp (disch := first | decide | omega | (simp only [nx]; first | done | omega)) only [go_sem, ub]; first | done | rfl) | rfl)
    · (first | (simp (disch := first | decide | omega | (simp only [nx]; first | done | omega)) only [go_sem, hp1]; first | done | rfl) | rfl)
end Go.Proofs.YtbcabejdchkpmaaGreatDoor

namespace Go.Proofs.YtbcabejdchkpmaaGreatDoor
open Go.RowKit
theorem thawOV {T : St} {v : DVal} {a b c ca cb cc : Nat} {zn zi zp : List D} (h : OV T v a b c ca cb cc zn zi zp) : Thaw Tryz.prog T (ownV v a b c ca cb cc) (((T.drop a).drop b).drop c) (encV v) := by
  have hba : b ≠ a := fun e => h.ab e.symm
  have hca : c ≠ a := fun e => h.ac e.symm
  have hcb : c ≠ b := fun e => h.bc e.symm
  have n1 := ownOb_len (wSs v.names) (by omega) h.ln
  have n2 := ownOb_len (wUs v.ids) (by omega) h.li
  have n3 := ownOb_len (wVs v.parts) (by omega) h.lp
  have bne : ∀ {x y : Nat}, x ≠ y → Nat.beq x y = false := fun {x y} hne => by
    cases hb : Nat.beq x y with
    | false => rfl
    | true => exact absurd (Nat.eq_of_beq_eq_true hb) hne
  refine Thaw.trans (thaw_own (zs := zn) h.obn n1 (by rw [szS]; omega) (by rw [szS]; exact wSs _) rfl) ?_
  refine Thaw.trans (thaw_own (k := b) (zs := zi) (c := cb) (e := 54) (es := v.ids.map u64D) (by simp only [St.drop, if_neg hba]; exact h.obi) n2 (by rw [szU]; omega) (by rw [szU]; exact wUs _) rfl) ?_
  refine thaw_own (k := c) (zs := zp) (c := cc) (e := 26) (es := v.parts.map encV) (by simp only [St.drop, if_neg hca, if_neg hcb]; exact h.obp) n3 (by rw [szV]; omega) (by rw [szV]; exact wVs _) ?_
  simp only [ownV, D.thaw, thawL, List.length_map, Nat.beq_refl, Bool.and_self, Bool.and_true, cond_true, bne h.ab, bne h.ac, bne h.bc, bne hba, bne hca, bne hcb, Bool.false_and, cond_false]
  rw [encV_eq]
  rfl
theorem fin_own {S T : St} {v : DVal} {a b c ca cb cc : Nat} {zn zi zp : List D} (hS : S.WF) (hs : S.Sub T) (ha : S.next ≤ a) (hb : S.next ≤ b) (hc : S.next ≤ c) (h : OV T v a b c ca cb cc zn zi zp) :
    DFinT Tryz.prog S T (ownV v a b c ca cb cc) (fun d' T' => d' = encV v ∧ T' = S) :=
  ⟨_, _, thawOV h, fin_pure hS (closed_encV v) ⟨hs.next, fun j o hj => by
    have := hS.lt hj
    simp only [St.drop]
    rw [if_neg (by omega), if_neg (by omega), if_neg (by omega)]
    exact hs.ob j o hj⟩⟩
set_option maxRecDepth 200000 in
set_option maxHeartbeats 4000000 in
theorem whole_w (v : DVal) (a b c ca cb cc : Nat) : DPure Tryz.prog 44 [ownV v a b c ca cb cc] (.v (.bool (wholeB v))) := by
  refine dpure_of_dwp mixed Tryz.func44 rfl (fun _ _ => by kernel_rfl) (rs := [.tmp 2]) rfl (by kernel_rfl) trivial (fun S hS => ?_)
  by_cases h5 : v.kind = 5
  · have b5 : (v.kind == 5) = true := by simp [h5]
    simp only [go_sem, add_ob, set_ob, ownV, b5]
    refine ⟨?_, (St.Sub.refl S).add hS _⟩
    simp only [D.frz, wholeB, decide_eq_true h5, Bool.true_and]
    congr 3
    exact propext ⟨fun h => by omega, fun h => by omega⟩
  · have b5 : (v.kind == 5) = false := by simp [h5]
    simp only [go_sem, add_ob, set_ob, ownV, b5]
    exact ⟨by simp only [D.frz, wholeB, decide_eq_false h5, Bool.false_and], (St.Sub.refl S).add hS _⟩
section
variable {P : Program} {base : Nat} {S : St} {η : Names} {w : World}
theorem flat_vs {α : Type} (g : α → Value) (l : List α) : flat (l.map fun a => D.v (g a)) = l.map fun a => D.v (g a) := by
  induction l with
  | nil => rfl
  | cons a l ih =>
    have : flat ((a :: l).map fun a => D.v (g a)) = D.v (g a) :: flat (l.map fun a => D.v (g a)) := by simp [flat, D.cells]
    rw [this, ih]
    rfl
theorem win_scalars {α : Type} (g : α → Value) (hM : Mem P base S η w) {k c : Nat} {e : TypeId} {l : List α} {zs : List D} {y : Value} (hk : S.ob k = some (ownOb e (l.map fun a => D.v (g a)) zs c)) (hc : l.length ≤ c) (h : Rep P w η (Fix P S η) (.win k 0 l.length c) y) :
    ∃ A, y = .slice A l.length c ∧ RF w (· < w.heap.size) 1 A l.length (l.map g) := by
  obtain ⟨us, ⟨⟨A, c', rfl, _, hA⟩, h2, h3⟩, h4⟩ := srcOk_at hM (z := 1) (m := l.length) (news := flat (l.map fun a => D.v (g a))) (by
    have := srcOk_ownA (z := 1) (c' := c) hk (by rw [List.length_map]; exact hc) (fun d hd => by obtain ⟨a, _, rfl⟩ := List.mem_map.1 hd; rfl)
    rwa [List.length_map] at this) h
  rw [flat_vs] at h4
  have hus : us = l.map g := by
    have : ∀ (l : List α) (us : List Value), RepL P w η (Fix P S η) (l.map fun a => D.v (g a)) us → us = l.map g := by
      intro l
      induction l with
      | nil => intro us h; simp only [List.map_nil, RepL] at h; simp [h]
      | cons a l ih =>
        intro us h
        simp only [List.map_cons, RepL, Rep] at h
        obtain ⟨x, xs, rfl, rfl, h⟩ := h
        rw [ih xs h]; rfl
    exact this l us h4
  subst hus
  obtain ⟨A', e1, _⟩ := h.win_slice
  injection e1 with e1 _ e2
  subst e2
  refine ⟨A, rfl, by simp, fun h0 => ?_⟩
  rcases hA with ⟨_, h0'⟩ | ⟨a, rfl, ha⟩
  · omega
  · have hr := h
    simp only [Rep] at hr
    rcases hr with ⟨b, hb, e, _⟩ | ⟨_, h0', _⟩
    · injection e with e
      injection e with e
      subst e
      refine ⟨b, 0, rfl, (hM.in_ k b hb).2, fun j u hu => ?_⟩
      have := ha j u hu
      rwa [Addr.add_mid] at this
    · omega
end
theorem strIndex_w {S : St} {k c : Nat} {zs : List D} {K : D → St → Prop} (l : List Str) (x : Str) (hn : l.length ≤ 140737488351232) (hk : S.ob k = some (ownOb 9 (l.map strD) zs c)) (hc : l.length ≤ c) (h : K (.v (.int .i64 (ixI l x))) S) :
    DCalls Tryz.prog 45 [.win k 0 l.length c, .v (sv x)] S K := fun base η w vs hM hr => by
  simp only [RepL] at hr
  obtain ⟨y, ys, rfl, h1, z, zs, rfl, h2, rfl⟩ := hr
  obtain ⟨A, rfl, hf⟩ := win_scalars sv hM hk hc h1
  simp only [Rep] at h2
  subst h2
  refine .inl ⟨by kernel_rfl, (strIndex_calls l x A c w hf hn).mono fun e w' ⟨he, hw⟩ => ?_⟩
  subst hw
  exact ⟨_, S, η, _, h, idxP_ix he, by simp only [Rep], Goes.refl hM⟩
end Go.Proofs.YtbcabejdchkpmaaGreatDoor

namespace Go.Proofs.YtbcabejdchkpmaaGreatDoor
open Go.RowKit
theorem inl_cell_tmp_normal {P : Program} {f : Fm} {K : D → St → Prop} (x : Tmp) (t : TypeId) (u : Tmp) (S' : St) : DQ.inl P [.cell x t, .tmp u] K .normal f S' = dcellR P S' t (f x) (fun r => K (.tup [r, f u]) S') := by
  rw [← onVal_cell]
  simp [DQ.inl, dresL, dres, onVal, one]
theorem inl_cell_tmp_ret {P : Program} {f : Fm} {K : D → St → Prop} (x : Tmp) (t : TypeId) (u : Tmp) (S' : St) : DQ.inl P [.cell x t, .tmp u] K .ret f S' = dcellR P S' t (f x) (fun r => K (.tup [r, f u]) S') := by
  rw [← onVal_cell]
  simp [DQ.inl, dresL, dres, onVal, one]
attribute [go_sem] inl_cell_tmp_normal inl_cell_tmp_ret
structure Fz (Q : Nat → Prop) (T X : St) : Prop where
  next : T.next ≤ X.next
  ob : ∀ j o, Q j → T.ob j = some o → X.ob j = some o
section
variable {Q Q' : Nat → Prop} {T X Y : St} {k : Nat} {o : Ob}
end
end Go.Proofs.YtbcabejdchkpmaaGreatDoor

namespace Go.Proofs.YtbcabejdchkpmaaGreatDoor
open Go.RowKit
theorem grow_hit {S : St} {own : Own} {e : TypeId} {n : Nat} : (S.grow own e n).ob S.next = some (.row e n) := by
  cases own <;> simp [St.grow, St.leave, St.add, St.drop]
theorem grow_skip {S : St} {own : Own} {e : TypeId} {n j : Nat} (h1 : j ≠ S.next) (h2 : ∀ g, own = .row g → j ≠ g) : (S.grow own e n).ob j = S.ob j := by
  cases own with
  | row g => simp [St.grow, St.leave, St.add, St.drop, h1, h2 g rfl]
  | no => simp [St.grow, St.leave, St.add, h1]
  | full => simp [St.grow, St.leave, St.add, h1]
def RowAt (lo : Nat) (own : Own) (n : Nat) (e : TypeId) (T : St) : Prop := (own = .full ∧ n = 0) ∨ ∃ g, own = .row g ∧ lo ≤ g ∧ T.ob g = some (.row e n)
theorem RowAt.ne {lo n j : Nat} {own : Own} {e : TypeId} {T : St} (h : RowAt lo own n e T) (hj : j < lo ∨ ∃ t cs, T.ob j = some (.box t cs)) : ∀ g, own = .row g → j ≠ g := fun g hg => by
  rcases h with ⟨h, _⟩ | ⟨g', h, h1, h2⟩
  · rw [h] at hg; cases hg
  · rw [h] at hg; injection hg with hg; subst hg
    rintro rfl
    rcases hj with hj | ⟨t, cs, hj⟩
    · omega
    · rw [hj] at h2; cases h2
theorem RowAt.lt {lo n : Nat} {own : Own} {e : TypeId} {T : St} (hT : T.WF) (h : RowAt lo own n e T) : ∀ g, own = .row g → g < T.next := fun g hg => by
  rcases h with ⟨h, _⟩ | ⟨g', h, h1, h2⟩
  · rw [h] at hg; cases hg
  · rw [h] at hg; injection hg with hg; subst hg
    exact hT.lt h2
theorem RowAt.keep {lo n : Nat} {own : Own} {e : TypeId} {T X : St} (h : RowAt lo own n e T) (hb : ∀ g, own = .row g → X.ob g = T.ob g) : RowAt lo own n e X := by
  rcases h with h | ⟨g, h, h1, h2⟩
  · exact .inl h
  · exact .inr ⟨g, h, h1, (hb g h).trans h2⟩
theorem dapp_at {P : Program} {S : St} {t ty e : TypeId} {own own2 : Own} {es : List D} {x : D} {lo : Nat} {K : D → St → Prop} (he : elT P t = some e) (hz : zeroT P e = true) (h : RowAt lo own es.length e S) (hw : ∀ d ∈ es, d.width = szOf P e) (hx : x.width = szOf P e)
    (hb : es.length + 1 ≤ 140737488355328) (hb2 : (es.length + 1) * bytesOf P e ≤ 140737488355328) (k : K (.sl (.row S.next) (es ++ [x])) (S.grow own e (es.length + 1))) : dapp P S t t ty (.sl own es) (.sl own2 [x]) K := by
  refine dapp_row ?_
  simp only [dappend, he, hz, true_and, Option.isSome_some, List.length_cons, List.length_nil]
  refine ⟨hw, fun d hd => by rw [List.mem_singleton] at hd; subst hd; exact hx, ?_, hb, hb2, k⟩
  rcases h with ⟨rfl, h⟩ | ⟨g, rfl, _, h⟩
  · trivial
  · exact h
structure Two (o lo : Nat) (e1 e2 : TypeId) (f : D → D → List D) (L1 L2 : List D) (o1 o2 : Own) (T : St) : Prop where
  box : T.ob o = some (.box 26 (f (.sl o1 L1) (.sl o2 L2)))
  r1 : RowAt lo o1 L1.length e1 T
  r2 : RowAt lo o2 L2.length e2 T
theorem Two.apart {o lo : Nat} {e1 e2 : TypeId} {f : D → D → List D} {L1 L2 : List D} {o1 o2 : Own} {T : St} (h : Two o lo e1 e2 f L1 L2 o1 o2 T) (hne : e1 ≠ e2) : ∀ g g', o1 = .row g → o2 = .row g' → g ≠ g' := fun g g' h1 h2 e => by
  subst e
  rcases h.r1 with ⟨e1', _⟩ | ⟨a, e1', _, e3⟩
  · rw [e1'] at h1; cases h1
  · rw [e1'] at h1; injection h1 with h1; subst h1
    rcases h.r2 with ⟨f1, _⟩ | ⟨b, f1, _, f3⟩
    · rw [f1] at h2; cases h2
    · rw [f1] at h2; injection h2 with h2; subst h2
      rw [e3] at f3
      injection f3 with f3
      injection f3 with f3 _
      exact hne f3
theorem Two.at1 {o lo : Nat} {e1 e2 : TypeId} {f : D → D → List D} {L1 L2 : List D} {o1 o2 : Own} {T : St} (h : Two o lo e1 e2 f L1 L2 o1 o2 T) (hT : T.WF) {j m : Nat} {ob : Ob} (hj : j < lo) (e : T.ob j = some ob) : (T.grow o1 e1 m).ob j = some ob := by
  have := hT.lt e
  rw [grow_skip (by omega) (h.r1.ne (.inl hj)), e]
theorem Two.row2 {o lo : Nat} {e1 e2 : TypeId} {f : D → D → List D} {L1 L2 : List D} {o1 o2 : Own} {T : St} (h : Two o lo e1 e2 f L1 L2 o1 o2 T) (hT : T.WF) (hne : e1 ≠ e2) {m : Nat} : RowAt lo o2 L2.length e2 (T.grow o1 e1 m) :=
  h.r2.keep fun g hg => by
    have := h.r2.lt hT g hg
    exact grow_skip (by omega) fun g' hg' e => h.apart hne g' g hg' hg e.symm
end Go.Proofs.YtbcabejdchkpmaaGreatDoor

namespace Go.Proofs.YtbcabejdchkpmaaGreatDoor
open Go.RowKit
theorem twoA_step {o lo : Nat} {e1 e2 : TypeId} {f : D → D → List D} {L1 L2 L1' : List D} {o1 o2 : Own} {T : St} {m1 : Nat} (h : Two o lo e1 e2 f L1 L2 o1 o2 T) (hT : T.WF) (hlo : lo ≤ T.next) (ho : o < lo) (hne : e1 ≠ e2) (hm1 : m1 = L1'.length) :
    Two o lo e1 e2 f L1' L2 (.row T.next) o2 ((T.grow o1 e1 m1).set o (.box 26 (f (.sl (.row T.next) L1') (.sl o2 L2)))) ∧
    Fz (fun j => j ≠ o ∧ j < lo) T ((T.grow o1 e1 m1).set o (.box 26 (f (.sl (.row T.next) L1') (.sl o2 L2)))) ∧
    ((T.grow o1 e1 m1).set o (.box 26 (f (.sl (.row T.next) L1') (.sl o2 L2)))).WF ∧
    ((T.grow o1 e1 m1).set o (.box 26 (f (.sl (.row T.next) L1') (.sl o2 L2)))).next = T.next + 1 := by
  subst hm1
  have hol := hT.lt h.box
  have hn1 : (T.grow o1 e1 L1'.length).next = T.next + 1 := grow_next _ _ _ _
  refine ⟨⟨by simp [St.set], .inr ⟨T.next, rfl, hlo, ?_⟩, (h.row2 hT hne (m := L1'.length)).keep fun g hg => ?_⟩, ⟨?_, fun j o' hj e => ?_⟩, ?_, hn1⟩
  · simp only [St.set]
    rw [if_neg (by omega), grow_hit]
  · have := h.r2.ne (j := o) (.inl ho) g hg
    simp only [St.set]
    rw [if_neg (fun e => this e.symm)]
  · show T.next ≤ (T.grow o1 e1 L1'.length).next
    omega
  · have := hT.lt e
    simp only [St.set]
    rw [if_neg hj.1, grow_skip (by omega) (h.r1.ne (.inl hj.2)), e]
  · exact (hT.grow _ _ _).set (by omega) _
theorem twoB_step {o lo : Nat} {e1 e2 : TypeId} {f : D → D → List D} {L1 L2 L2' : List D} {o1 o2 : Own} {T : St} {m2 : Nat} (h : Two o lo e1 e2 f L1 L2 o1 o2 T) (hT : T.WF) (hlo : lo ≤ T.next) (ho : o < lo) (hne : e1 ≠ e2) (hm2 : m2 = L2'.length) :
    Two o lo e1 e2 f L1 L2' o1 (.row T.next) ((T.grow o2 e2 m2).set o (.box 26 (f (.sl o1 L1) (.sl (.row T.next) L2')))) ∧
    Fz (fun j => j ≠ o ∧ j < lo) T ((T.grow o2 e2 m2).set o (.box 26 (f (.sl o1 L1) (.sl (.row T.next) L2')))) ∧
    ((T.grow o2 e2 m2).set o (.box 26 (f (.sl o1 L1) (.sl (.row T.next) L2')))).WF ∧
    ((T.grow o2 e2 m2).set o (.box 26 (f (.sl o1 L1) (.sl (.row T.next) L2')))).next = T.next + 1 := by
  subst hm2
  have hol := hT.lt h.box
  have hn1 : (T.grow o2 e2 L2'.length).next = T.next + 1 := grow_next _ _ _ _
  refine ⟨⟨by simp [St.set], h.r1.keep fun g hg => ?_, .inr ⟨T.next, rfl, hlo, ?_⟩⟩, ⟨?_, fun j o' hj e => ?_⟩, ?_, hn1⟩
  · have h1 := h.r1.ne (j := o) (.inl ho) g hg
    have h2 := h.r1.lt hT g hg
    simp only [St.set]
    rw [if_neg (fun e => h1 e.symm), grow_skip (by omega) fun g' hg' e => h.apart hne g g' hg hg' e]
  · simp only [St.set]
    rw [if_neg (by omega), grow_hit]
  · show T.next ≤ (T.grow o2 e2 L2'.length).next
    omega
  · have := hT.lt e
    simp only [St.set]
    rw [if_neg hj.1, grow_skip (by omega) (h.r2.ne (.inl hj.2)), e]
  · exact (hT.grow _ _ _).set (by omega) _
theorem RowAt.rfr {lo n k : Nat} {own : Own} {e : TypeId} {T T' : St} (h : RowAt lo own n e T) (hb : ∃ t cs, T.ob k = some (.box t cs)) (hf : RFr k T T') : RowAt lo own n e T' := by
  rcases h with h | ⟨g, h, h1, h2⟩
  · exact .inl h
  · refine .inr ⟨g, h, h1, hf.ob g _ (fun hg => ?_) h2⟩
    obtain ⟨t, cs, hb⟩ := hb
    rw [hg, hb] at h2; cases h2
theorem Two.rfr {o lo k : Nat} {e1 e2 : TypeId} {f : D → D → List D} {L1 L2 : List D} {o1 o2 : Own} {T T' : St} (h : Two o lo e1 e2 f L1 L2 o1 o2 T) (hk : o ≠ k) (hb : ∃ t cs, T.ob k = some (.box t cs)) (hf : RFr k T T') : Two o lo e1 e2 f L1 L2 o1 o2 T' :=
  ⟨hf.box o _ _ hk h.box, h.r1.rfr hb hf, h.r2.rfr hb hf⟩
theorem RAt.isbox {k : Nat} {l : List UInt8} {i : Nat} {T : St} (h : RAt k l i T) : ∃ t cs, T.ob k = some (.box t cs) := by obtain ⟨own, h⟩ := h; exact ⟨_, _, h⟩
theorem RAt.fz {k lo o i : Nat} {l : List UInt8} {S T : St} (h : RAt k l i S) (hf : Fz (fun j => j ≠ o ∧ j < lo) S T) (hk : k ≠ o) (hl : k < lo) : RAt k l i T := by
  obtain ⟨own, h⟩ := h
  exact ⟨own, hf.ob _ _ ⟨hk, hl⟩ h⟩
theorem RFr.fz {k lo o : Nat} {S T X : St} (h : RFr k S T) (hS : S.WF) (hf : Fz (fun j => j ≠ o ∧ j < lo) T X) (ho : S.next ≤ o) (hl : S.next ≤ lo) : RFr k S X :=
  ⟨Nat.le_trans h.next hf.next, fun j ob hj e => by have := hS.lt e; exact hf.ob j ob ⟨by omega, by omega⟩ (h.ob j ob hj e)⟩
end Go.Proofs.YtbcabejdchkpmaaGreatDoor

namespace Go.Proofs.YtbcabejdchkpmaaGreatDoor
open Go.RowKit
theorem okCell_ownV (v : DVal) (a b c ca cb cc : Nat) : (ownV v a b c ca cb cc).okCell = true := Eq.trans (Eq.refl _) (Eq.refl _)
theorem len_ownV (v : DVal) (a b c ca cb cc : Nat) : (ownV v a b c ca cb cc).cells.length = 6 := Eq.trans (Eq.refl _) (Eq.refl _)
theorem take_ownV (v : DVal) (a b c ca cb cc : Nat) : (ownV v a b c ca cb cc).cells.take 6 = (ownV v a b c ca cb cc).cells := Eq.trans (Eq.refl _) (Eq.refl _)
theorem agg_ownV (v : DVal) (a b c ca cb cc : Nat) : D.agg (ownV v a b c ca cb cc).cells = ownV v a b c ca cb cc := Eq.trans (Eq.refl _) (Eq.refl _)
theorem drop_ownV (v : DVal) (a b c ca cb cc : Nat) : (ownV v a b c ca cb cc).cells.drop 6 = [] := Eq.trans (Eq.refl _) (Eq.refl _)
attribute [go_sem] drop_ownV List.append_nil
attribute [go_sem] okCell_ownV len_ownV take_ownV agg_ownV
theorem gdO0 (v : DVal) (a b c ca cb cc : Nat) : (ownV v a b c ca cb cc).cells.getD 0 undefD = .v (.int .i64 v.kind) := Eq.trans (Eq.refl _) (Eq.refl _)
theorem gdO3 (v : DVal) (a b c ca cb cc : Nat) : (ownV v a b c ca cb cc).cells.getD 3 undefD = .win a 0 v.names.length ca := Eq.trans (Eq.refl _) (Eq.refl _)
theorem gdO4 (v : DVal) (a b c ca cb cc : Nat) : (ownV v a b c ca cb cc).cells.getD 4 undefD = .win b 0 v.ids.length cb := Eq.trans (Eq.refl _) (Eq.refl _)
theorem gdO5 (v : DVal) (a b c ca cb cc : Nat) : (ownV v a b c ca cb cc).cells.getD 5 undefD = .win c 0 v.parts.length cc := Eq.trans (Eq.refl _) (Eq.refl _)
attribute [go_sem] gdO0 gdO3 gdO4 gdO5
end Go.Proofs.YtbcabejdchkpmaaGreatDoor

namespace Go.Proofs.YtbcabejdchkpmaaGreatDoor
open Go.RowKit
theorem here_parts {v : DVal} (h : hereV v = true) : ¬ bad1 v.kind v.n v.s.length v.names.length v.ids.length ∧ ¬ bad2 v.kind v.n v.s.length v.names.length v.ids.length v.parts.length (nameB v.s) ∧ (List.range v.names.length).all (riseOk v.names) = true ∧ (List.range v.ids.length).all (idOk v.ids) = true := by
  rw [hereV, Bool.and_eq_true, Bool.and_eq_true, Bool.and_eq_true, Bool.not_eq_true', Bool.not_eq_true', decide_eq_false_iff_not, decide_eq_false_iff_not] at h
  exact ⟨h.1.1, h.1.2, h.2.1, h.2.2⟩
end Go.Proofs.YtbcabejdchkpmaaGreatDoor

namespace Go.Proofs.YtbcabejdchkpmaaGreatDoor
open Go.RowKit
def errO (c : Nat) : D := if c = 0 then .v .nilIface else .ifc 42 (.v (.int .i64 (c : Int)))
theorem errO_closed (c : Nat) : (errO c).closed := by unfold errO; split <;> simp [D.closed, D.all]
end Go.Proofs.YtbcabejdchkpmaaGreatDoor

namespace Go.Proofs.YtbcabejdchkpmaaGreatDoor
open Go.RowKit
def outL (d1 d2 : D) : List D := [.v (.int .i64 6), .v (.int .i64 0), .v (.string ⟨#[]⟩), .sl .full [], d1, d2]
end Go.Proofs.YtbcabejdchkpmaaGreatDoor

namespace Go.Proofs.YtbcabejdchkpmaaGreatDoor
open Go.RowKit
theorem cv_u8i64 (n : Int) : pureRun Tryz.prog (convert 5 3 (.int .u8 n)) = some (.int .i64 (IntKind.i64.wrap n)) := by kernel_rfl
def recL (d1 d2 : D) : List D := [.v (.int .i64 5), .v (.int .i64 0), .v (.string ⟨#[]⟩), d1, .sl .full [], d2]
theorem RV.hereT {v : DVal} (h : RV v) : hereV v = true := by
  obtain ⟨m, h1, h2⟩ := h
  obtain ⟨m, rfl⟩ : ∃ n, m = n + 1 := ⟨m - 1, by have := v.depth_pos; omega⟩
  rw [soundV, Bool.and_eq_true] at h2
  exact h2.1
theorem vpart_split (m : Nat) (v : DVal) (j : Nat) : ∀ d, ∃ X, vpartB m v (j + d) = vpartB m v j ++ X
  | 0 => ⟨[], by simp⟩
  | d + 1 => by
    obtain ⟨X, h⟩ := vpart_split m v j d
    exact ⟨X ++ _, by rw [← Nat.add_assoc, vpartB_succ, h, List.append_assoc]⟩
theorem vpart_at {m : Nat} {v : DVal} {j : Nat} {L rest : List UInt8} {i : Nat} (hd : L.drop i = vheadB v ++ vpartB m v v.parts.length ++ rest) (hj : j < v.parts.length) :
    ∃ X, L.drop (i + (vheadB v).length + (vpartB m v j).length) = vkeyB v j ++ (bytesV m v.parts[j] ++ X) := by
  obtain ⟨X, h⟩ := vpart_split m v (j + 1) (v.parts.length - (j + 1))
  rw [show j + 1 + (v.parts.length - (j + 1)) = v.parts.length by omega, vpartB_succ, getD_at hj] at h
  refine ⟨X ++ rest, ?_⟩
  rw [Nat.add_assoc, ← List.drop_drop, hd, h, ← List.length_append]
  simp only [← List.append_assoc]
  rw [List.append_assoc (vheadB v ++ vpartB m v j), List.append_assoc (vheadB v ++ vpartB m v j), List.append_assoc (vheadB v ++ vpartB m v j), List.drop_left]
theorem rise_take {l : List Str} (h : (List.range l.length).all (riseOk l) = true) (h8 : l.length ≤ 8) (j : Nat) : riseV (l.take j) = true := by
  unfold riseV
  rw [Bool.and_eq_true, decide_eq_true_eq, List.length_take]
  refine ⟨List.all_eq_true.2 fun i hi => ?_, by omega⟩
  rw [List.mem_range] at hi
  have h1 := List.all_eq_true.1 h i (List.mem_range.2 (by omega))
  have e1 : (l.take j).getD i [] = l.getD i [] := by
    rw [List.getD_eq_getElem?_getD, List.getD_eq_getElem?_getD, List.getElem?_take_of_lt (by omega)]
  have e2 : (l.take j).getD (i - 1) [] = l.getD (i - 1) [] := by
    rw [List.getD_eq_getElem?_getD, List.getD_eq_getElem?_getD, List.getElem?_take_of_lt (by omega)]
  unfold riseOk at h1 ⊢
  rw [e1, e2]; exact h1
theorem ids_take {l : List Nat} (h : (List.range l.length).all (idOk l) = true) (h12 : l.length ≤ 12) (j : Nat) : idsB (l.take j) = true := by
  unfold idsB
  rw [Bool.and_eq_true, decide_eq_true_eq, List.length_take]
  refine ⟨List.all_eq_true.2 fun i hi => ?_, by omega⟩
  rw [List.mem_range] at hi
  have h1 := List.all_eq_true.1 h i (List.mem_range.2 (by omega))
  have e1 : (l.take j).getD i 0 = l.getD i 0 := by
    rw [List.getD_eq_getElem?_getD, List.getD_eq_getElem?_getD, List.getElem?_take_of_lt (by omega)]
  have e2 : (l.take j).take i = l.take i := by rw [List.take_take, Nat.min_eq_left (by omega)]
  unfold idOk at h1 ⊢
  rw [e1, e2]; exact h1
theorem shape_scalar {v : DVal} (h : hereV v = true) (h5 : v.kind ≠ 5) (h6 : v.kind ≠ 6) : v.names = [] ∧ v.ids = [] ∧ v.parts = [] := by
  obtain ⟨b1, b2, b3, b4⟩ := here_parts h
  unfold bad1 at b1
  unfold bad2 at b2
  exact ⟨List.eq_nil_of_length_eq_zero (by omega), List.eq_nil_of_length_eq_zero (by omega), List.eq_nil_of_length_eq_zero (by omega)⟩
set_option maxRecDepth 200000 in
set_option maxHeartbeats 16000000 in
theorem vread_r (m : Nat) : ∀ (v : DVal) {S : St} {k : Nat} {L rest : List UInt8} {i deep : Nat} (hd : v.depth ≤ m) (hdp : v.depth ≤ deep) (hdp2 : deep ≤ 1000) (hr : RV v) (ho : okV v) (hk : k < S.next) (hR : RAt k L i S) (hL : L.length ≤ 1099511627776) (hi : i ≤ L.length) (hb : L.drop i = bytesV m v ++ rest),
    DCalls Tryz.prog 39 [.loc k 0, .v (.int .i64 (deep : Int))] S fun d T => d = encV v ∧ RAt k L (i + (bytesV m v).length) T ∧ RFr k S T := by
  induction m with
  | zero => intro v S k L rest i deep h; have := v.depth_pos; omega
  | succ m ih =>
    intro v S k L rest i deep hd hdp hdp2 hr ho hk hR hL hi hb
    have hf := hr.facts
    have hh := hr.hereT
    have hp := (okV_eq v).1 ho
    have hkk := hf.kind
    have hdpos := v.depth_pos
    obtain ⟨c1, c2, c3, c4⟩ := here_parts hh
    unfold bad1 at c1
    unfold bad2 at c2
    have hlen := congrArg List.length hb
    rw [List.length_drop, List.length_append] at hlen
    refine DCalls.frz (K := fun d T => d.frz = encV v ∧ RAt k L (i + (bytesV (m + 1) v).length) T ∧ RFr k S T) ?_ (fun d T h => h)
    have hbv : bytesV (m + 1) v = vheadB v ++ vpartB m v v.parts.length := rfl
    rw [hbv] at hb hlen ⊢
    rw [List.length_append] at hlen ⊢
    have hkb : (vkindB v).toNat = v.kind.toNat := by
      unfold vkindB
      rw [UInt8.toNat_ofNat_of_lt' (by show v.kind.toNat < 256; omega)]
    have hkb2 : ((vkindB v).toNat : Int) = v.kind := by rw [hkb]; omega
    refine dcalls_inline mixed Tryz.func39 rfl (fun _ _ => by kernel_rfl) (rs := [.cell 4 26]) rfl (by kernel_rfl) (fun hS => ?_)
    have b0 : ((deep : Int) == 0) = false := by simp; omega
    (simp (disch := first | decide | omega | (simp only [nx]; first | done | omega)) only [go_sem, b0]; (repeat with_reducible refine aI ?_))
    obtain ⟨hb1, hvh⟩ : ∃ X, vheadB v = vkindB v :: X := ⟨_, rfl⟩
    refine (byte_r (c := vkindB v) (rest := hb1 ++ vpartB m v v.parts.length ++ rest) (by show k < S.next + 1; omega) (hR.keep (add_keep hS _)) hL hi (by rw [hb, hvh]; simp)).wf.mono ?_
    rintro _ T0 ⟨⟨rfl, h0, hF0⟩, hT0⟩
    have hn0 : S.next + 1 ≤ T0.next := hF0.next
    have z0 : T0.ob S.next = some (.box 26 [.v (.int .i64 0), .v (.int .i64 0), .v (.string ⟨#[]⟩), .sl .full [], .sl .full [], .sl .full []]) := hF0.box _ _ _ (by omega) add_eq
    have hFS : RFr k S T0 := (RFr.add (RFr.refl k S) hS _).trans hF0
    have wk : IntKind.i64.wrap ((vkindB v).toNat : Int) = v.kind := by rw [hkb2]; exact IntWalk.i64_in _ ⟨by omega, by omega⟩
    (simp (disch := first | decide | omega | (simp only [nx]; first | done | omega)) only [go_sem, bD, cv_u8i64, wk]; (repeat with_reducible refine aI ?_))
    obtain ⟨T1, hT1e⟩ : ∃ T1 : St, T1 = (T0.add (.box 26 [.v (.int .i64 0), .v (.int .i64 0), .v (.string ⟨#[]⟩), .sl .full [], .sl .full [], .sl .full []])).set T0.next (.box 26 [.v (.int .i64 v.kind), .v (.int .i64 0), .v (.string ⟨#[]⟩), .sl .full [], .sl .full [], .sl .full []]) := ⟨_, rfl⟩
    have hT1 : T1.WF := by rw [hT1e]; exact (hT0.add _).set (by show T0.next < T0.next + 1; omega) _
    have hn1 : T1.next = T0.next + 1 := by rw [hT1e]; rfl
    have u5 : T1.ob T0.next = some (.box 26 [.v (.int .i64 v.kind), .v (.int .i64 0), .v (.string ⟨#[]⟩), .sl .full [], .sl .full [], .sl .full []]) := by rw [hT1e]; exact set_eq
    have hkeep : ∀ j o, T0.ob j = some o → T1.ob j = some o := fun j o e => by
      have := hT0.lt e
      rw [hT1e, set_ne (by omega), add_ne this, e]
    have z1 := hkeep _ _ z0
    have h1 := h0.keep hkeep
    have hF1 : RFr k S T1 := hFS.trans ⟨by omega, fun j o _ e => hkeep j o e⟩
    have hkT : k < T1.next := by have := hFS.next; omega
    have hkn : k ≠ T0.next := by have := hFS.next; omega
    rw [← hT1e]
    clear hT1e hkeep z0 h0
    refine (err_r h1).mono ?_
    rintro _ _ ⟨rfl, he⟩
    rw [he]
    clear he
    have hdr1 : L.drop (i + 1) = hb1 ++ vpartB m v v.parts.length ++ rest := by rw [← List.drop_drop, hb, hvh]; simp
    have hi1 : i + 1 ≤ L.length := by rw [hvh, List.length_cons] at hlen; omega
    by_cases e5 : v.kind = 5
    · have k5 : (v.kind == 5) = true := by simp [e5]
      have k6 : (v.kind == 6) = false := by simp [e5]
      have k1 : (v.kind == 1) = false := by simp [e5]
      have k2 : (v.kind == 2) = false := by simp [e5]
      have k3 : (v.kind == 3) = false := by simp [e5]
      have k4 : (v.kind == 4) = false := by simp [e5]
      have hb1e : hb1 = numB v.parts.length := by
        have := hvh
        unfold vheadB at this
        rw [if_neg (by omega), if_neg (by omega), if_neg (by omega)] at this
        injection this with _ this
        exact this.symm
      have hs0 : v.s = [] := List.eq_nil_of_length_eq_zero (by omega)
      have hn00 : v.n = 0 := by omega
      have hot : v.ids = [] := List.eq_nil_of_length_eq_zero (by omega)
      have hln : v.names.length = v.parts.length := by omega
      (simp (disch := first | decide | omega | (simp only [nx]; first | done | omega)) only [go_sem, z1, u5, k1, k2, k3, k4, k5, k6]; (repeat with_reducible refine aI ?_))
      refine (count_r (mx := 8) (n := v.parts.length) (rest := vpartB m v v.parts.length ++ rest) hkT h1 hL hi1 (by rw [hdr1, hb1e, List.append_assoc]) (by omega) (by omega)).wf.mono ?_
      rintro _ T2 ⟨⟨rfl, h2, hF2⟩, hT2⟩
      have u2 := hF2.box _ _ _ (by omega) u5
      have z2 := hF2.box _ _ _ (by omega) z1
      have hn2 := hF2.next
      have hFS2 := hF1.trans hF2
      rw [e5] at u2
      (simp (disch := first | decide | omega | (simp only [nx]; first | done | omega)) only [go_sem, u2]; (repeat with_reducible refine aI ?_))
      obtain ⟨lo, hlo⟩ : ∃ lo, lo = T0.next + 1 := ⟨_, rfl⟩
      have heA : elT Tryz.prog 22 = some 9 := by kernel_rfl
      have heV : elT Tryz.prog 24 = some 26 := by kernel_rfl
      have hzA : szOf Tryz.prog 9 = 1 := by kernel_rfl
      have hzV : szOf Tryz.prog 26 = 6 := by kernel_rfl
      have hbA : bytesOf Tryz.prog 9 = 16 := by kernel_rfl
      have hbV : bytesOf Tryz.prog 26 = 104 := by kernel_rfl
      have hne : (9 : TypeId) ≠ 26 := by decide
      have hhl : (vheadB v).length = 1 + (numB v.parts.length).length := by rw [hvh, hb1e, List.length_cons]; omega
      refine dloop_up (fun t => List.contains [52, 53, 54, 55, 56, 57, 58, 59, 60, 61, 62, 63, 64, 65, 66, 67, 68, 69, 70, 71, 72, 73, 74, 75, 76, 77, 78, 79, 80, 81, 82, 83, 84, 85, 86, 87, 88, 89, 90, 91, 92] t) (by kernel_rfl) (by exact hT2) v.parts.length (fun j g T => j ≤ v.parts.length ∧ g 52 = .v (.int .i64 ((j : Nat) : Int)) ∧ (∃ o1 o2, Two T0.next lo 9 26 recL ((v.names.take j).map strD) ((v.parts.take j).map encV) o1 o2 T) ∧ RAt k L (i + (vheadB v).length + (vpartB m v j).length) T ∧ RFr k S T ∧ T.ob S.next = some (.box 26 [.v (.int .i64 0), .v (.int .i64 0), .v (.string ⟨#[]⟩), .sl .full [], .sl .full [], .sl .full []]) ∧ lo ≤ T.next)
        ⟨by omega, by (first | (simp (disch := first | decide | omega | (simp only [nx]; first | done | omega)) only [go_sem]; first | done | rfl) | rfl), ⟨.full, .full, ⟨u2, .inl ⟨rfl, rfl⟩, .inl ⟨rfl, rfl⟩⟩⟩, h2.obk rfl (by rw [hhl]; simp [vpartB]; omega), hFS2, z2, by omega⟩ ?_
      rintro j g T hT hg ⟨le, q52, ⟨o1, o2, hTw⟩, hRj, hFj, zj, hlj⟩
      (have q0 := hg 0 rfl; have q1 := hg 1 rfl; have q4 := hg 4 rfl; have q5 := hg 5 rfl; have q51 := hg 51 rfl; simp (disch := first | decide | omega | (simp only [nx]; first | done | omega)) only [go_sem] at q0 q1 q4 q5 q51; clear hg)
      have t5 := hTw.box
      have hkj : k < T.next := by omega
      have hij : i + (vheadB v).length + (vpartB m v j).length ≤ L.length := by
        obtain ⟨X, hX⟩ := vpart_split m v j (v.parts.length - j)
        rw [show j + (v.parts.length - j) = v.parts.length by omega] at hX
        rw [hX, List.length_append] at hlen
        omega
      by_cases hj : j < v.parts.length
      · have b1 : decide ((j : Int) < (v.parts.length : Int)) = true := by simp; omega
        have w1 : IntKind.i64.wrap ((j : Int) + 1) = ((j + 1 : Nat) : Int) := IntWalk.i64_in _ ⟨by omega, by omega⟩
        have wd : IntKind.i64.wrap ((deep : Int) - 1) = ((deep - 1 : Nat) : Int) := by rw [IntWalk.i64_in _ ⟨by omega, by omega⟩]; omega
        have hjn : j < v.names.length := by omega
        obtain ⟨X, hpl⟩ := vpart_at (m := m) hb hj
        have hkey : vkeyB v j = numB v.names[j].length ++ v.names[j] := (by unfold vkeyB; rw [if_pos e5, getD_at hjn])
        have hnb : nameB v.names[j] = true := by
          have := List.all_eq_true.1 c3 j (List.mem_range.2 hjn)
          unfold riseOk at this
          rw [getD_at hjn] at this
          exact ((Bool.and_eq_true _ _).mp this).1
        have hst1 : (v.names.take j).map strD ++ [D.v (sv v.names[j])] = (v.names.take (j + 1)).map strD := by rw [List.take_succ_eq_append_getElem hjn, List.map_append]; rfl
        have hst2 : (v.parts.take j).map encV ++ [encV v.parts[j]] = (v.parts.take (j + 1)).map encV := by rw [List.take_succ_eq_append_getElem hj, List.map_append]; rfl
        have kk5 : ((5 : Int) == 5) = true := by decide
        (simp (disch := first | decide | omega | (simp only [nx]; first | done | omega)) only [go_sem, q52, q0, q1, q4, q5, q51, t5, recL, b1, kk5]; (repeat with_reducible refine aI ?_))
        refine ddraw_any (fun S' => S'.ob T0.next = some (.box 26 (recL (.sl o1 ((v.names.take j).map strD)) (.sl o2 ((v.parts.take j).map encV))))) 6 (by (first | (simp (disch := first | decide | omega | (simp only [nx]; first | done | omega)) only [go_sem, t5]; first | done | rfl) | rfl)) (by kernel_rfl) ?_
        (refine s_take 0 rfl (by kernel_rfl) (by kernel_rfl) (v := ?v1) (fun S' hz => dquietR_of ?h1) <| s_take 1 rfl (by kernel_rfl) (by kernel_rfl) (v := ?v2) (fun S' hz => dquietR_of ?h2) <| s_take 2 rfl (by kernel_rfl) (by kernel_rfl) (v := ?v3) (fun S' hz => dquietR_of ?h3) <| ?k3; (case h1 | h2 | h3 => ((simp (disch := first | decide | omega | (simp only [nx]; first | done | omega)) only [go_sem, q0, q1, q4, q5, q51, recL, hz]; (repeat with_reducible refine aI ?_)); first | done | exact rfl | omega)))
        (refine s_split [3] (by kernel_rfl) (by simp) ?_; intro j_ hj_; obtain rfl : j_ = 3 := (by simpa using hj_); clear hj_; refine s_op rfl ?_; (simp (disch := first | decide | omega | (simp only [nx]; first | done | omega)) only [go_sem, q0, q1, q4, q5, q51]; (repeat with_reducible refine aI ?_)))
        refine (name_r v.names[j] hkj hRj hL hij (rest := bytesV m v.parts[j] ++ X) (by rw [hpl, hkey]) hnb).wf.mono ?_
        rintro _ T3 ⟨⟨rfl, h3, hF3⟩, hT3⟩
        have hTw3 := hTw.rfr (Ne.symm hkn) hRj.isbox hF3
        have w5 := hTw3.box
        have hn3 := hF3.next
        refine ⟨w5, ?_⟩
        (refine s_take 4 rfl (by kernel_rfl) (by kernel_rfl) (v := ?v4) (fun S' hz => dquietR_of ?h4) ?k4; (case h4 => ((simp (disch := first | decide | omega | (simp only [nx]; first | done | omega)) only [go_sem, q0, q1, q4, q5, q51, recL, hz]; (repeat with_reducible refine aI ?_)); first | done | exact rfl | omega)))
        (refine s_split [5] (by kernel_rfl) (by simp) ?_; intro j_ hj_; obtain rfl : j_ = 5 := (by simpa using hj_); clear hj_; refine s_op rfl ?_; (simp (disch := first | decide | omega | (simp only [nx]; first | done | omega)) only [go_sem, q0, q1, q4, q5, q51, recL]; (repeat with_reducible refine aI ?_)))
        refine dapp_at (lo := lo) heA (by kernel_rfl) hTw3.r1 (by rw [hzA]; exact wSs _) (by rw [hzA]; rfl) (by rw [List.length_map, List.length_take]; omega) (by rw [List.length_map, List.length_take, hbA]; omega) ?_
        have y5 : ∀ mm, (T3.grow o1 9 mm).ob T0.next = some (.box 26 (recL (.sl o1 ((v.names.take j).map strD)) (.sl o2 ((v.parts.take j).map encV)))) := fun mm => hTw3.at1 hT3 (by omega) w5
        refine ⟨y5 _, ?_⟩
        (refine s_done (by kernel_rfl) ?_; (simp (disch := first | decide | omega | (simp only [nx]; first | done | omega)) only [go_sem, q0, q1, q4, q5, q51, y5, recL]; (repeat with_reducible refine aI ?_)))
        have key := twoA_step hTw3 hT3 (by omega) (by omega) hne (L1' := (v.names.take j).map strD ++ [D.v (sv v.names[j])]) (m1 := (v.names.take j).length + 1) (by simp)
        simp only [recL] at key
        rw [hst1] at key
        rw [hst1]
        revert key
        generalize St.set (St.grow _ _ _ _) _ _ = T4
        rintro ⟨h4, hF4, hT4, hn4⟩
        have w6 := h4.box
        refine DCalls.of_pure (rise_d (.row T3.next) (v.names.take (j + 1)) (fun x hx => hp.2.2.2.1 x (List.mem_of_mem_take hx)) (by rw [List.length_take]; omega)) ?_
        rw [rise_take c3 (by omega) (j + 1)]
        (simp (disch := first | decide | omega | (simp only [nx]; first | done | omega)) only [go_sem, q0, q1, q4, q5, q51, w6, recL, kk5]; (repeat with_reducible refine aI ?_))
        have hR4 := h3.fz hF4 hkn (by omega)
        have hkl : (vkeyB v j).length = ((numB v.names[j].length).length + v.names[j].length) := by simp [hkey]
        have hpl2 : L.drop (i + (vheadB v).length + (vpartB m v j).length + ((numB v.names[j].length).length + v.names[j].length)) = bytesV m v.parts[j] ++ X := by
          rw [← List.drop_drop, hpl, ← hkl, List.drop_left]
        have hmem := List.getElem_mem hj
        have hdj := DVal.depth_part hmem
        have hvs := vpartB_succ m v j
        rw [getD_at hj] at hvs
        have hvl := congrArg List.length hvs
        rw [List.length_append, List.length_append, hkl] at hvl
        have hij2 : i + (vheadB v).length + (vpartB m v (j + 1)).length ≤ L.length := by
          obtain ⟨X, hX⟩ := vpart_split m v (j + 1) (v.parts.length - (j + 1))
          rw [show j + 1 + (v.parts.length - (j + 1)) = v.parts.length by omega] at hX
          rw [hX, List.length_append] at hlen
          omega
        refine ddraw_any (fun S' => S'.ob T0.next = some (.box 26 (recL (.sl (.row T3.next) ((v.names.take (j + 1)).map strD)) (.sl o2 ((v.parts.take j).map encV))))) 8 (by (first | (simp (disch := first | decide | omega | (simp only [nx]; first | done | omega)) only [go_sem, w6]; first | done | rfl) | rfl)) (by kernel_rfl) ?_
        (refine s_take 0 rfl (by kernel_rfl) (by kernel_rfl) (v := ?v5) (fun S' hz => dquietR_of ?h5) <| s_take 1 rfl (by kernel_rfl) (by kernel_rfl) (v := ?v6) (fun S' hz => dquietR_of ?h6) <| s_take 2 rfl (by kernel_rfl) (by kernel_rfl) (v := ?v7) (fun S' hz => dquietR_of ?h7) <| s_take 3 rfl (by kernel_rfl) (by kernel_rfl) (v := ?v8) (fun S' hz => dquietR_of ?h8) <| s_take 4 rfl (by kernel_rfl) (by kernel_rfl) (v := ?v9) (fun S' hz => dquietR_of ?h9) <| ?k9; (case h5 | h6 | h7 | h8 | h9 => ((simp (disch := first | decide | omega | (simp only [nx]; first | done | omega)) only [go_sem, q0, q1, q4, q5, q51, recL, wd, hz]; (repeat with_reducible refine aI ?_)); first | done | exact rfl | omega)))
        (refine s_split [5] (by kernel_rfl) (by simp) ?_; intro j_ hj_; obtain rfl : j_ = 5 := (by simpa using hj_); clear hj_; refine s_op rfl ?_; (simp (disch := first | decide | omega | (simp only [nx]; first | done | omega)) only [go_sem, q0, q1, q4, q5, q51, wd]; (repeat with_reducible refine aI ?_)))
        refine (ih v.parts[j] (by omega) (by omega) (by omega) (hr.part hmem) (hp.2.2.2.2.2.2.2.2 _ hmem) (by omega) hR4 hL (by omega) hpl2).wf.mono ?_
        rintro _ T5 ⟨⟨rfl, h5, hF5⟩, hT5⟩
        have hTw5 := h4.rfr (Ne.symm hkn) hR4.isbox hF5
        have w7 := hTw5.box
        have hn5 := hF5.next
        refine ⟨w7, ?_⟩
        (refine s_take 6 rfl (by kernel_rfl) (by kernel_rfl) (v := ?v10) (fun S' hz => dquietR_of ?h10) ?k10; (case h10 => ((simp (disch := first | decide | omega | (simp only [nx]; first | done | omega)) only [go_sem, q0, q1, q4, q5, q51, recL, hz]; (repeat with_reducible refine aI ?_)); first | done | exact rfl | omega)))
        (refine s_split [7] (by kernel_rfl) (by simp) ?_; intro j_ hj_; obtain rfl : j_ = 7 := (by simpa using hj_); clear hj_; refine s_op rfl ?_; (simp (disch := first | decide | omega | (simp only [nx]; first | done | omega)) only [go_sem, q0, q1, q4, q5, q51, recL]; (repeat with_reducible refine aI ?_)))
        refine dapp_at (lo := lo) heV (by kernel_rfl) hTw5.r2 (by rw [hzV]; exact wVs _) (by rw [hzV]; exact cells_encV _) (by rw [List.length_map, List.length_take]; omega) (by rw [List.length_map, List.length_take, hbV]; omega) ?_
        have y7 : ∀ mm, (T5.grow o2 26 mm).ob T0.next = some (.box 26 (recL (.sl (.row T3.next) ((v.names.take (j + 1)).map strD)) (.sl o2 ((v.parts.take j).map encV)))) := fun mm => by
          have := hT5.lt w7
          rw [grow_skip (by omega) (hTw5.r2.ne (.inl (by omega)))]
          exact w7
        refine ⟨y7 _, ?_⟩
        (refine s_done (by kernel_rfl) ?_; (simp (disch := first | decide | omega | (simp only [nx]; first | done | omega)) only [go_sem, q0, q1, q4, q5, q51, y7, recL, w1, q52]; (repeat with_reducible refine aI ?_)))
        have key := twoB_step hTw5 hT5 (by omega) (by omega) hne (L2' := (v.parts.take j).map encV ++ [encV v.parts[j]]) (m2 := (v.parts.take j).length + 1) (by simp)
        simp only [recL] at key
        rw [hst2] at key
        revert key
        rw [hst2]
        generalize St.set (St.grow _ _ _ _) _ _ = T6
        rintro ⟨h6, hF6, hT6, hn6⟩
        have hF0j := ((hFj.trans hF3).fz hS hF4 (by omega) (by omega))
        have hFe := ((hF0j.trans hF5).fz hS hF6 (by omega) (by omega))
        have hz6 : T6.ob S.next = some (.box 26 [.v (.int .i64 0), .v (.int .i64 0), .v (.string ⟨#[]⟩), .sl .full [], .sl .full [], .sl .full []]) := hF6.ob _ _ ⟨by omega, by omega⟩ (hF5.box _ _ _ (by omega) (hF4.ob _ _ ⟨by omega, by omega⟩ (hF3.box _ _ _ (by omega) zj)))
        refine ⟨by omega, T6.ob, fun _ _ h => h, by omega, by (first | (simp (disch := first | decide | omega | (simp only [nx]; first | done | omega)) only [go_sem]; first | done | rfl) | rfl), ⟨(.row T3.next), (.row T5.next), h6⟩, ?_, hFe, hz6, by show lo ≤ T6.next; omega⟩
        exact (h5.fz hF6 hkn (by omega)).obk rfl (by omega)
      · have b1 : decide ((j : Int) < (v.parts.length : Int)) = false := by simp; omega
        have hje : j = v.parts.length := by omega
        subst hje
        (simp (disch := first | decide | omega | (simp only [nx]; first | done | omega)) only [go_sem, q52, q0, q1, q4, q5, q51, b1]; (repeat with_reducible refine aI ?_))
        refine (err_r hRj).mono ?_
        rintro _ _ ⟨rfl, he⟩
        rw [he]
        clear he
        (simp (disch := first | decide | omega | (simp only [nx]; first | done | omega)) only [go_sem, q0, q1, q4, q5, q51, zj, t5, recL]; (repeat with_reducible refine aI ?_))
        refine ⟨?_, ?_, ?_⟩
        · rw [List.take_of_length_le (by omega), List.take_of_length_le (Nat.le_refl _)]
          simp only [D.frz, frzL, frz_strs, frz_mapV]
          rw [encV_eq, e5, hn00, hs0, hot]
          rfl
        · exact RAt.obk (set_ne (by omega)) hRj (by omega)
        · exact ⟨hFj.next, fun j o hj e => by have := hS.lt e; exact (set_ne (by omega)).trans (hFj.ob j o hj e)⟩
    by_cases e6 : v.kind = 6
    · have k5 : (v.kind == 5) = false := by simp [e6]
      have k6 : (v.kind == 6) = true := by simp [e6]
      have k1 : (v.kind == 1) = false := by simp [e6]
      have k2 : (v.kind == 2) = false := by simp [e6]
      have k3 : (v.kind == 3) = false := by simp [e6]
      have k4 : (v.kind == 4) = false := by simp [e6]
      have hb1e : hb1 = numB v.parts.length := by
        have := hvh
        unfold vheadB at this
        rw [if_neg (by omega), if_neg (by omega), if_neg (by omega)] at this
        injection this with _ this
        exact this.symm
      have hs0 : v.s = [] := List.eq_nil_of_length_eq_zero (by omega)
      have hn00 : v.n = 0 := by omega
      have hot : v.names = [] := List.eq_nil_of_length_eq_zero (by omega)
      have hln : v.ids.length = v.parts.length := by omega
      (simp (disch := first | decide | omega | (simp only [nx]; first | done | omega)) only [go_sem, z1, u5, k1, k2, k3, k4, k5, k6]; (repeat with_reducible refine aI ?_))
      refine (count_r (mx := 12) (n := v.parts.length) (rest := vpartB m v v.parts.length ++ rest) hkT h1 hL hi1 (by rw [hdr1, hb1e, List.append_assoc]) (by omega) (by omega)).wf.mono ?_
      rintro _ T2 ⟨⟨rfl, h2, hF2⟩, hT2⟩
      have u2 := hF2.box _ _ _ (by omega) u5
      have z2 := hF2.box _ _ _ (by omega) z1
      have hn2 := hF2.next
      have hFS2 := hF1.trans hF2
      rw [e6] at u2
      (simp (disch := first | decide | omega | (simp only [nx]; first | done | omega)) only [go_sem, u2]; (repeat with_reducible refine aI ?_))
      obtain ⟨lo, hlo⟩ : ∃ lo, lo = T0.next + 1 := ⟨_, rfl⟩
      have heA : elT Tryz.prog 23 = some 54 := by kernel_rfl
      have heV : elT Tryz.prog 24 = some 26 := by kernel_rfl
      have hzA : szOf Tryz.prog 54 = 1 := by kernel_rfl
      have hzV : szOf Tryz.prog 26 = 6 := by kernel_rfl
      have hbA : bytesOf Tryz.prog 54 = 8 := by kernel_rfl
      have hbV : bytesOf Tryz.prog 26 = 104 := by kernel_rfl
      have hne : (54 : TypeId) ≠ 26 := by decide
      have hhl : (vheadB v).length = 1 + (numB v.parts.length).length := by rw [hvh, hb1e, List.length_cons]; omega
      refine dloop_up (fun t => List.contains [52, 53, 54, 55, 56, 57, 58, 59, 60, 61, 62, 63, 64, 65, 66, 67, 68, 69, 70, 71, 72, 73, 74, 75, 76, 77, 78, 79, 80, 81, 82, 83, 84, 85, 86, 87, 88, 89, 90, 91, 92] t) (by kernel_rfl) (by exact hT2) v.parts.length (fun j g T => j ≤ v.parts.length ∧ g 52 = .v (.int .i64 ((j : Nat) : Int)) ∧ (∃ o1 o2, Two T0.next lo 54 26 outL ((v.ids.take j).map u64D) ((v.parts.take j).map encV) o1 o2 T) ∧ RAt k L (i + (vheadB v).length + (vpartB m v j).length) T ∧ RFr k S T ∧ T.ob S.next = some (.box 26 [.v (.int .i64 0), .v (.int .i64 0), .v (.string ⟨#[]⟩), .sl .full [], .sl .full [], .sl .full []]) ∧ lo ≤ T.next)
        ⟨by omega, by (first | (simp (disch := first | decide | omega | (simp only [nx]; first | done | omega)) only [go_sem]; first | done | rfl) | rfl), ⟨.full, .full, ⟨u2, .inl ⟨rfl, rfl⟩, .inl ⟨rfl, rfl⟩⟩⟩, h2.obk rfl (by rw [hhl]; simp [vpartB]; omega), hFS2, z2, by omega⟩ ?_
      rintro j g T hT hg ⟨le, q52, ⟨o1, o2, hTw⟩, hRj, hFj, zj, hlj⟩
      (have q0 := hg 0 rfl; have q1 := hg 1 rfl; have q4 := hg 4 rfl; have q5 := hg 5 rfl; have q51 := hg 51 rfl; simp (disch := first | decide | omega | (simp only [nx]; first | done | omega)) only [go_sem] at q0 q1 q4 q5 q51; clear hg)
      have t5 := hTw.box
      have hkj : k < T.next := by omega
      have hij : i + (vheadB v).length + (vpartB m v j).length ≤ L.length := by
        obtain ⟨X, hX⟩ := vpart_split m v j (v.parts.length - j)
        rw [show j + (v.parts.length - j) = v.parts.length by omega] at hX
        rw [hX, List.length_append] at hlen
        omega
      by_cases hj : j < v.parts.length
      · have b1 : decide ((j : Int) < (v.parts.length : Int)) = true := by simp; omega
        have w1 : IntKind.i64.wrap ((j : Int) + 1) = ((j + 1 : Nat) : Int) := IntWalk.i64_in _ ⟨by omega, by omega⟩
        have wd : IntKind.i64.wrap ((deep : Int) - 1) = ((deep - 1 : Nat) : Int) := by rw [IntWalk.i64_in _ ⟨by omega, by omega⟩]; omega
        have hjn : j < v.ids.length := by omega
        obtain ⟨X, hpl⟩ := vpart_at (m := m) hb hj
        have hkey : vkeyB v j = numB v.ids[j] := (by unfold vkeyB; rw [if_neg e5, getD_at hjn])
        have hu : IsU64 v.ids[j] := isU64 (hp.2.2.2.2.2.1 _ (List.getElem_mem hjn))
        have hst1 : (v.ids.take j).map u64D ++ [D.v (.int .u64 (v.ids[j] : Int))] = (v.ids.take (j + 1)).map u64D := by rw [List.take_succ_eq_append_getElem hjn, List.map_append]; rfl
        have hst2 : (v.parts.take j).map encV ++ [encV v.parts[j]] = (v.parts.take (j + 1)).map encV := by rw [List.take_succ_eq_append_getElem hj, List.map_append]; rfl
        have kk5 : ((6 : Int) == 5) = false := by decide
        (simp (disch := first | decide | omega | (simp only [nx]; first | done | omega)) only [go_sem, q52, q0, q1, q4, q5, q51, t5, outL, b1, kk5]; (repeat with_reducible refine aI ?_))
        refine ddraw_any (fun S' => S'.ob T0.next = some (.box 26 (outL (.sl o1 ((v.ids.take j).map u64D)) (.sl o2 ((v.parts.take j).map encV))))) 6 (by (first | (simp (disch := first | decide | omega | (simp only [nx]; first | done | omega)) only [go_sem, t5]; first | done | rfl) | rfl)) (by kernel_rfl) ?_
        (refine s_take 0 rfl (by kernel_rfl) (by kernel_rfl) (v := ?v11) (fun S' hz => dquietR_of ?h11) <| s_take 1 rfl (by kernel_rfl) (by kernel_rfl) (v := ?v12) (fun S' hz => dquietR_of ?h12) <| s_take 2 rfl (by kernel_rfl) (by kernel_rfl) (v := ?v13) (fun S' hz => dquietR_of ?h13) <| ?k13; (case h11 | h12 | h13 => ((simp (disch := first | decide | omega | (simp only [nx]; first | done | omega)) only [go_sem, q0, q1, q4, q5, q51, outL, hz]; (repeat with_reducible refine aI ?_)); first | done | exact rfl | omega)))
        (refine s_split [3] (by kernel_rfl) (by simp) ?_; intro j_ hj_; obtain rfl : j_ = 3 := (by simpa using hj_); clear hj_; refine s_op rfl ?_; (simp (disch := first | decide | omega | (simp only [nx]; first | done | omega)) only [go_sem, q0, q1, q4, q5, q51]; (repeat with_reducible refine aI ?_)))
        refine (number_r (mx := 18446744073709551615) (n := v.ids[j]) (s := (numB v.ids[j]).length) hkj hRj hL hij (by rw [hpl, hkey]; exact numP_numB _ _ hu) (by unfold IsU64 at hu; omega)).wf.mono ?_
        rintro _ T3 ⟨⟨rfl, h3, hF3⟩, hT3⟩
        have hTw3 := hTw.rfr (Ne.symm hkn) hRj.isbox hF3
        have w5 := hTw3.box
        have hn3 := hF3.next
        refine ⟨w5, ?_⟩
        (refine s_take 4 rfl (by kernel_rfl) (by kernel_rfl) (v := ?v14) (fun S' hz => dquietR_of ?h14) ?k14; (case h14 => ((simp (disch := first | decide | omega | (simp only [nx]; first | done | omega)) only [go_sem, q0, q1, q4, q5, q51, outL, hz]; (repeat with_reducible refine aI ?_)); first | done | exact rfl | omega)))
        (refine s_split [5] (by kernel_rfl) (by simp) ?_; intro j_ hj_; obtain rfl : j_ = 5 := (by simpa using hj_); clear hj_; refine s_op rfl ?_; (simp (disch := first | decide | omega | (simp only [nx]; first | done | omega)) only [go_sem, q0, q1, q4, q5, q51, outL]; (repeat with_reducible refine aI ?_)))
        refine dapp_at (lo := lo) heA (by kernel_rfl) hTw3.r1 (by rw [hzA]; exact wUs _) (by rw [hzA]; rfl) (by rw [List.length_map, List.length_take]; omega) (by rw [List.length_map, List.length_take, hbA]; omega) ?_
        have y5 : ∀ mm, (T3.grow o1 54 mm).ob T0.next = some (.box 26 (outL (.sl o1 ((v.ids.take j).map u64D)) (.sl o2 ((v.parts.take j).map encV)))) := fun mm => hTw3.at1 hT3 (by omega) w5
        refine ⟨y5 _, ?_⟩
        (refine s_done (by kernel_rfl) ?_; (simp (disch := first | decide | omega | (simp only [nx]; first | done | omega)) only [go_sem, q0, q1, q4, q5, q51, y5, outL]; (repeat with_reducible refine aI ?_)))
        have key := twoA_step hTw3 hT3 (by omega) (by omega) hne (L1' := (v.ids.take j).map u64D ++ [D.v (.int .u64 (v.ids[j] : Int))]) (m1 := (v.ids.take j).length + 1) (by simp)
        simp only [outL] at key
        rw [hst1] at key
        rw [hst1]
        revert key
        generalize St.set (St.grow _ _ _ _) _ _ = T4
        rintro ⟨h4, hF4, hT4, hn4⟩
        have w6 := h4.box
        refine DCalls.of_pure (ids_d (.row T3.next) (v.ids.take (j + 1)) (by rw [List.length_take]; omega)) ?_
        rw [ids_take c4 (by omega) (j + 1)]
        (simp (disch := first | decide | omega | (simp only [nx]; first | done | omega)) only [go_sem, q0, q1, q4, q5, q51, w6, outL, kk5]; (repeat with_reducible refine aI ?_))
        have hR4 := h3.fz hF4 hkn (by omega)
        have hkl : (vkeyB v j).length = (numB v.ids[j]).length := by simp [hkey]
        have hpl2 : L.drop (i + (vheadB v).length + (vpartB m v j).length + (numB v.ids[j]).length) = bytesV m v.parts[j] ++ X := by
          rw [← List.drop_drop, hpl, ← hkl, List.drop_left]
        have hmem := List.getElem_mem hj
        have hdj := DVal.depth_part hmem
        have hvs := vpartB_succ m v j
        rw [getD_at hj] at hvs
        have hvl := congrArg List.length hvs
        rw [List.length_append, List.length_append, hkl] at hvl
        have hij2 : i + (vheadB v).length + (vpartB m v (j + 1)).length ≤ L.length := by
          obtain ⟨X, hX⟩ := vpart_split m v (j + 1) (v.parts.length - (j + 1))
          rw [show j + 1 + (v.parts.length - (j + 1)) = v.parts.length by omega] at hX
          rw [hX, List.length_append] at hlen
          omega
        refine ddraw_any (fun S' => S'.ob T0.next = some (.box 26 (outL (.sl (.row T3.next) ((v.ids.take (j + 1)).map u64D)) (.sl o2 ((v.parts.take j).map encV))))) 8 (by (first | (simp (disch := first | decide | omega | (simp only [nx]; first | done | omega)) only [go_sem, w6]; first | done | rfl) | rfl)) (by kernel_rfl) ?_
        (refine s_take 0 rfl (by kernel_rfl) (by kernel_rfl) (v := ?v15) (fun S' hz => dquietR_of ?h15) <| s_take 1 rfl (by kernel_rfl) (by kernel_rfl) (v := ?v16) (fun S' hz => dquietR_of ?h16) <| s_take 2 rfl (by kernel_rfl) (by kernel_rfl) (v := ?v17) (fun S' hz => dquietR_of ?h17) <| s_take 3 rfl (by kernel_rfl) (by kernel_rfl) (v := ?v18) (fun S' hz => dquietR_of ?h18) <| s_take 4 rfl (by kernel_rfl) (by kernel_rfl) (v := ?v19) (fun S' hz => dquietR_of ?h19) <| ?k19; (case h15 | h16 | h17 | h18 | h19 => ((simp (disch := first | decide | omega | (simp only [nx]; first | done | omega)) only [go_sem, q0, q1, q4, q5, q51, outL, wd, hz]; (repeat with_reducible refine aI ?_)); first | done | exact rfl | omega)))
        (refine s_split [5] (by kernel_rfl) (by simp) ?_; intro j_ hj_; obtain rfl : j_ = 5 := (by simpa using hj_); clear hj_; refine s_op rfl ?_; (simp (disch := first | decide | omega | (simp only [nx]; first | done | omega)) only [go_sem, q0, q1, q4, q5, q51, wd]; (repeat with_reducible refine aI ?_)))
        refine (ih v.parts[j] (by omega) (by omega) (by omega) (hr.part hmem) (hp.2.2.2.2.2.2.2.2 _ hmem) (by omega) hR4 hL (by omega) hpl2).wf.mono ?_
        rintro _ T5 ⟨⟨rfl, h5, hF5⟩, hT5⟩
        have hTw5 := h4.rfr (Ne.symm hkn) hR4.isbox hF5
        have w7 := hTw5.box
        have hn5 := hF5.next
        refine ⟨w7, ?_⟩
        (refine s_take 6 rfl (by kernel_rfl) (by kernel_rfl) (v := ?v20) (fun S' hz => dquietR_of ?h20) ?k20; (case h20 => ((simp (disch := first | decide | omega | (simp only [nx]; first | done | omega)) only [go_sem, q0, q1, q4, q5, q51, outL, hz]; (repeat with_reducible refine aI ?_)); first | done | exact rfl | omega)))
        (refine s_split [7] (by kernel_rfl) (by simp) ?_; intro j_ hj_; obtain rfl : j_ = 7 := (by simpa using hj_); clear hj_; refine s_op rfl ?_; (simp (disch := first | decide | omega | (simp only [nx]; first | done | omega)) only [go_sem, q0, q1, q4, q5, q51, outL]; (repeat with_reducible refine aI ?_)))
        refine dapp_at (lo := lo) heV (by kernel_rfl) hTw5.r2 (by rw [hzV]; exact wVs _) (by rw [hzV]; exact cells_encV _) (by rw [List.length_map, List.length_take]; omega) (by rw [List.length_map, List.length_take, hbV]; omega) ?_
        have y7 : ∀ mm, (T5.grow o2 26 mm).ob T0.next = some (.box 26 (outL (.sl (.row T3.next) ((v.ids.take (j + 1)).map u64D)) (.sl o2 ((v.parts.take j).map encV)))) := fun mm => by
          have := hT5.lt w7
          rw [grow_skip (by omega) (hTw5.r2.ne (.inl (by omega)))]
          exact w7
        refine ⟨y7 _, ?_⟩
        (refine s_done (by kernel_rfl) ?_; (simp (disch := first | decide | omega | (simp only [nx]; first | done | omega)) only [go_sem, q0, q1, q4, q5, q51, y7, outL, w1, q52]; (repeat with_reducible refine aI ?_)))
        have key := twoB_step hTw5 hT5 (by omega) (by omega) hne (L2' := (v.parts.take j).map encV ++ [encV v.parts[j]]) (m2 := (v.parts.take j).length + 1) (by simp)
        simp only [outL] at key
        rw [hst2] at key
        revert key
        rw [hst2]
        generalize St.set (St.grow _ _ _ _) _ _ = T6
        rintro ⟨h6, hF6, hT6, hn6⟩
        have hF0j := ((hFj.trans hF3).fz hS hF4 (by omega) (by omega))
        have hFe := ((hF0j.trans hF5).fz hS hF6 (by omega) (by omega))
        have hz6 : T6.ob S.next = some (.box 26 [.v (.int .i64 0), .v (.int .i64 0), .v (.string ⟨#[]⟩), .sl .full [], .sl .full [], .sl .full []]) := hF6.ob _ _ ⟨by omega, by omega⟩ (hF5.box _ _ _ (by omega) (hF4.ob _ _ ⟨by omega, by omega⟩ (hF3.box _ _ _ (by omega) zj)))
        refine ⟨by omega, T6.ob, fun _ _ h => h, by omega, by (first | (simp (disch := first | decide | omega | (simp only [nx]; first | done | omega)) only [go_sem]; first | done | rfl) | rfl), ⟨(.row T3.next), (.row T5.next), h6⟩, ?_, hFe, hz6, by show lo ≤ T6.next; omega⟩
        exact (h5.fz hF6 hkn (by omega)).obk rfl (by omega)
      · have b1 : decide ((j : Int) < (v.parts.length : Int)) = false := by simp; omega
        have hje : j = v.parts.length := by omega
        subst hje
        (simp (disch := first | decide | omega | (simp only [nx]; first | done | omega)) only [go_sem, q52, q0, q1, q4, q5, q51, b1]; (repeat with_reducible refine aI ?_))
        refine (err_r hRj).mono ?_
        rintro _ _ ⟨rfl, he⟩
        rw [he]
        clear he
        (simp (disch := first | decide | omega | (simp only [nx]; first | done | omega)) only [go_sem, q0, q1, q4, q5, q51, zj, t5, outL]; (repeat with_reducible refine aI ?_))
        refine ⟨?_, ?_, ?_⟩
        · rw [List.take_of_length_le (by omega), List.take_of_length_le (Nat.le_refl _)]
          simp only [D.frz, frzL, frz_u64s, frz_mapV]
          rw [encV_eq, e6, hn00, hs0, hot]
          rfl
        · exact RAt.obk (set_ne (by omega)) hRj (by omega)
        · exact ⟨hFj.next, fun j o hj e => by have := hS.lt e; exact (set_ne (by omega)).trans (hFj.ob j o hj e)⟩
    obtain ⟨s1, s2, s3⟩ := shape_scalar hh e5 e6
    have k5 : (v.kind == 5) = false := by simp [e5]
    have k6 : (v.kind == 6) = false := by simp [e6]
    have hvp0 : vpartB m v v.parts.length = [] := by rw [s3]; rfl
    by_cases e1 : v.kind = 1
    · have k1 : (v.kind == 1) = true := by simp [e1]
      (simp (disch := first | decide | omega | (simp only [nx]; first | done | omega)) only [go_sem, z1, u5, k1]; (repeat with_reducible refine aI ?_))
      have hb1e : hb1 = [if v.n = 1 then 1 else 0] := by
        have := hvh
        unfold vheadB at this
        rw [if_pos e1] at this
        injection this with _ this
        exact this.symm
      have hs0 : v.s = [] := List.eq_nil_of_length_eq_zero (by omega)
      by_cases en : v.n = 1
      · have hb1f : hb1 = [1] := by rw [hb1e, if_pos en]
        refine (bool_r (c := true) (rest := vpartB m v v.parts.length ++ rest) hkT h1 hL hi1 (by rw [hdr1, hb1f]; rfl)).wf.mono ?_
        rintro _ T2 ⟨⟨rfl, h2, hF2⟩, hT2⟩
        have u2 := hF2.box _ _ _ (by omega) u5
        have z2 := hF2.box _ _ _ (by omega) z1
        have hn2 := hF2.next
        have hFS2 := hF1.trans hF2
        (simp (disch := first | decide | omega | (simp only [nx]; first | done | omega)) only [go_sem, u2]; (repeat with_reducible refine aI ?_))
        obtain ⟨T3, hT3e⟩ : ∃ T3 : St, T3 = T2.set T0.next (.box 26 [.v (.int .i64 v.kind), .v (.int .i64 1), .v (.string ⟨#[]⟩), .sl .full [], .sl .full [], .sl .full []]) := ⟨_, rfl⟩
        rw [← hT3e]
        have hT3 : T3.WF := by rw [hT3e]; exact hT2.set (by omega) _
        have w5 : T3.ob T0.next = some (.box 26 [.v (.int .i64 v.kind), .v (.int .i64 1), .v (.string ⟨#[]⟩), .sl .full [], .sl .full [], .sl .full []]) := by rw [hT3e]; exact set_eq
        have z3 : T3.ob S.next = some (.box 26 [.v (.int .i64 0), .v (.int .i64 0), .v (.string ⟨#[]⟩), .sl .full [], .sl .full [], .sl .full []]) := by rw [hT3e, set_ne (by omega)]; exact z2
        have h3 := h2.obk (T := T3) (by rw [hT3e]; exact set_ne hkn) rfl
        have hF3 : RFr k S T3 := ⟨by rw [hT3e]; exact hFS2.next, fun j o hj e => by have := hS.lt e; rw [hT3e]; exact (set_ne (by omega)).trans (hFS2.ob j o hj e)⟩
        refine dloop_up (fun t => List.contains [52, 53, 54, 55, 56, 57, 58, 59, 60, 61, 62, 63, 64, 65, 66, 67, 68, 69, 70, 71, 72, 73, 74, 75, 76, 77, 78, 79, 80, 81, 82, 83, 84, 85, 86, 87, 88, 89, 90, 91, 92] t) (by kernel_rfl) (by exact hT3) 0 (fun j g T => g 52 = .v (.int .i64 0) ∧ T = T3) ⟨by (first | (simp (disch := first | decide | omega | (simp only [nx]; first | done | omega)) only [go_sem]; first | done | rfl) | rfl), rfl⟩ ?_
        rintro j g T hT hg ⟨q52, hTe⟩
        subst hTe
        (have q0 := hg 0 rfl; have q1 := hg 1 rfl; have q4 := hg 4 rfl; have q5 := hg 5 rfl; have q51 := hg 51 rfl; simp (disch := first | decide | omega | (simp only [nx]; first | done | omega)) only [go_sem] at q0 q1 q4 q5 q51; clear hg)
        have bz : decide ((0 : Int) < 0) = false := by decide
        (simp (disch := first | decide | omega | (simp only [nx]; first | done | omega)) only [go_sem, q52, q0, q1, q4, q5, q51, bz]; (repeat with_reducible refine aI ?_))
        refine (err_r h3).mono ?_
        rintro _ _ ⟨rfl, he⟩
        rw [he]
        clear he
        (simp (disch := first | decide | omega | (simp only [nx]; first | done | omega)) only [go_sem, q0, q1, q4, q5, q51, z3, w5]; (repeat with_reducible refine aI ?_))
        refine ⟨?_, ?_, ?_⟩
        · rw [encV_eq, s1, s2, s3, hs0, en]
          rfl
        · refine RAt.obk (set_ne (by omega)) h3 ?_
          simp only [hvh, hb1e, hvp0, List.length_cons, List.length_append, List.length_nil]
          try omega
        · exact ⟨hF3.next, fun j o hj e => by have := hS.lt e; exact (set_ne (by omega)).trans (hF3.ob j o hj e)⟩
      · have en0 : v.n = 0 := by omega
        have hb1f : hb1 = [0] := by rw [hb1e, if_neg en]
        refine (bool_r (c := false) (rest := vpartB m v v.parts.length ++ rest) hkT h1 hL hi1 (by rw [hdr1, hb1f]; rfl)).wf.mono ?_
        rintro _ T2 ⟨⟨rfl, h2, hF2⟩, hT2⟩
        have u2 := hF2.box _ _ _ (by omega) u5
        have z2 := hF2.box _ _ _ (by omega) z1
        have hn2 := hF2.next
        have hFS2 := hF1.trans hF2
        (simp (disch := first | decide | omega | (simp only [nx]; first | done | omega)) only [go_sem, u2]; (repeat with_reducible refine aI ?_))
        have hT3 := hT2
        have w5 := u2
        have z3 := z2
        have h3 := h2
        have hF3 := hFS2
        refine dloop_up (fun t => List.contains [52, 53, 54, 55, 56, 57, 58, 59, 60, 61, 62, 63, 64, 65, 66, 67, 68, 69, 70, 71, 72, 73, 74, 75, 76, 77, 78, 79, 80, 81, 82, 83, 84, 85, 86, 87, 88, 89, 90, 91, 92] t) (by kernel_rfl) (by exact hT2) 0 (fun j g T => g 52 = .v (.int .i64 0) ∧ T = T2) ⟨by (first | (simp (disch := first | decide | omega | (simp only [nx]; first | done | omega)) only [go_sem]; first | done | rfl) | rfl), rfl⟩ ?_
        rintro j g T hT hg ⟨q52, hTe⟩
        subst hTe
        (have q0 := hg 0 rfl; have q1 := hg 1 rfl; have q4 := hg 4 rfl; have q5 := hg 5 rfl; have q51 := hg 51 rfl; simp (disch := first | decide | omega | (simp only [nx]; first | done | omega)) only [go_sem] at q0 q1 q4 q5 q51; clear hg)
        have bz : decide ((0 : Int) < 0) = false := by decide
        (simp (disch := first | decide | omega | (simp only [nx]; first | done | omega)) only [go_sem, q52, q0, q1, q4, q5, q51, bz]; (repeat with_reducible refine aI ?_))
        refine (err_r h3).mono ?_
        rintro _ _ ⟨rfl, he⟩
        rw [he]
        clear he
        (simp (disch := first | decide | omega | (simp only [nx]; first | done | omega)) only [go_sem, q0, q1, q4, q5, q51, z3, w5]; (repeat with_reducible refine aI ?_))
        refine ⟨?_, ?_, ?_⟩
        · rw [encV_eq, s1, s2, s3, hs0, en0]
          rfl
        · refine RAt.obk (set_ne (by omega)) h3 ?_
          simp only [hvh, hb1e, hvp0, List.length_cons, List.length_append, List.length_nil]
          try omega
        · exact ⟨hF3.next, fun j o hj e => by have := hS.lt e; exact (set_ne (by omega)).trans (hF3.ob j o hj e)⟩
    have k1 : (v.kind == 1) = false := by simp [e1]
    by_cases e2 : v.kind = 2
    · have k2 : (v.kind == 2) = true := by simp [e2]
      (simp (disch := first | decide | omega | (simp only [nx]; first | done | omega)) only [go_sem, z1, u5, k1, k2]; (repeat with_reducible refine aI ?_))
      have hb1e : hb1 = numB (zig v.n) := by
        have := hvh
        unfold vheadB at this
        rw [if_neg e1, if_pos e2] at this
        injection this with _ this
        exact this.symm
      have hs0 : v.s = [] := List.eq_nil_of_length_eq_zero (by omega)
      refine (int_r (rest := vpartB m v v.parts.length ++ rest) v.n (isI64 hp.2.1) hkT h1 hL hi1 (by rw [hdr1, hb1e, List.append_assoc])).wf.mono ?_
      rintro _ T2 ⟨⟨rfl, h2, hF2⟩, hT2⟩
      have u2 := hF2.box _ _ _ (by omega) u5
      have z2 := hF2.box _ _ _ (by omega) z1
      have hn2 := hF2.next
      have hFS2 := hF1.trans hF2
      (simp (disch := first | decide | omega | (simp only [nx]; first | done | omega)) only [go_sem, u2]; (repeat with_reducible refine aI ?_))
      obtain ⟨T3, hT3e⟩ : ∃ T3 : St, T3 = T2.set T0.next (.box 26 [.v (.int .i64 v.kind), .v (.int .i64 v.n), .v (.string ⟨#[]⟩), .sl .full [], .sl .full [], .sl .full []]) := ⟨_, rfl⟩
      rw [← hT3e]
      have hT3 : T3.WF := by rw [hT3e]; exact hT2.set (by omega) _
      have w5 : T3.ob T0.next = some (.box 26 [.v (.int .i64 v.kind), .v (.int .i64 v.n), .v (.string ⟨#[]⟩), .sl .full [], .sl .full [], .sl .full []]) := by rw [hT3e]; exact set_eq
      have z3 : T3.ob S.next = some (.box 26 [.v (.int .i64 0), .v (.int .i64 0), .v (.string ⟨#[]⟩), .sl .full [], .sl .full [], .sl .full []]) := by rw [hT3e, set_ne (by omega)]; exact z2
      have h3 := h2.obk (T := T3) (by rw [hT3e]; exact set_ne hkn) rfl
      have hF3 : RFr k S T3 := ⟨by rw [hT3e]; exact hFS2.next, fun j o hj e => by have := hS.lt e; rw [hT3e]; exact (set_ne (by omega)).trans (hFS2.ob j o hj e)⟩
      refine dloop_up (fun t => List.contains [52, 53, 54, 55, 56, 57, 58, 59, 60, 61, 62, 63, 64, 65, 66, 67, 68, 69, 70, 71, 72, 73, 74, 75, 76, 77, 78, 79, 80, 81, 82, 83, 84, 85, 86, 87, 88, 89, 90, 91, 92] t) (by kernel_rfl) (by exact hT3) 0 (fun j g T => g 52 = .v (.int .i64 0) ∧ T = T3) ⟨by (first | (simp (disch := first | decide | omega | (simp only [nx]; first | done | omega)) only [go_sem]; first | done | rfl) | rfl), rfl⟩ ?_
      rintro j g T hT hg ⟨q52, hTe⟩
      subst hTe
      (have q0 := hg 0 rfl; have q1 := hg 1 rfl; have q4 := hg 4 rfl; have q5 := hg 5 rfl; have q51 := hg 51 rfl; simp (disch := first | decide | omega | (simp only [nx]; first | done | omega)) only [go_sem] at q0 q1 q4 q5 q51; clear hg)
      have bz : decide ((0 : Int) < 0) = false := by decide
      (simp (disch := first | decide | omega | (simp only [nx]; first | done | omega)) only [go_sem, q52, q0, q1, q4, q5, q51, bz]; (repeat with_reducible refine aI ?_))
      refine (err_r h3).mono ?_
      rintro _ _ ⟨rfl, he⟩
      rw [he]
      clear he
      (simp (disch := first | decide | omega | (simp only [nx]; first | done | omega)) only [go_sem, q0, q1, q4, q5, q51, z3, w5]; (repeat with_reducible refine aI ?_))
      refine ⟨?_, ?_, ?_⟩
      · rw [encV_eq, s1, s2, s3, hs0]
        rfl
      · refine RAt.obk (set_ne (by omega)) h3 ?_
        simp only [hvh, hb1e, hvp0, List.length_cons, List.length_append, List.length_nil]
        try omega
      · exact ⟨hF3.next, fun j o hj e => by have := hS.lt e; exact (set_ne (by omega)).trans (hF3.ob j o hj e)⟩
    have k2 : (v.kind == 2) = false := by simp [e2]
    by_cases e3 : v.kind = 3
    · have k3 : (v.kind == 3) = true := by simp [e3]
      (simp (disch := first | decide | omega | (simp only [nx]; first | done | omega)) only [go_sem, z1, u5, k1, k2, k3]; (repeat with_reducible refine aI ?_))
      have hb1e : hb1 = numB v.s.length ++ v.s := by
        have := hvh
        unfold vheadB at this
        rw [if_neg e1, if_neg e2, if_pos (.inl e3)] at this
        injection this with _ this
        exact this.symm
      have hn00 : v.n = 0 := by omega
      refine (text_r (xs := v.s) (mx := 64) hkT h1 hL hi1 (by omega) (by rw [hdr1, hb1e, hvp0, List.append_nil]; exact bytP_numB v.s rest 64 hf.s (by have := hf.s; omega))).wf.mono ?_
      rintro d2 T2 ⟨⟨hd2, h2, hF2⟩, hT2⟩
      have hd2' : d2 = .v (sv v.s) := hd2
      subst hd2'
      clear hd2
      have u2 := hF2.box _ _ _ (by omega) u5
      have z2 := hF2.box _ _ _ (by omega) z1
      have hn2 := hF2.next
      have hFS2 := hF1.trans hF2
      (simp (disch := first | decide | omega | (simp only [nx]; first | done | omega)) only [go_sem, u2]; (repeat with_reducible refine aI ?_))
      obtain ⟨T3, hT3e⟩ : ∃ T3 : St, T3 = T2.set T0.next (.box 26 [.v (.int .i64 v.kind), .v (.int .i64 0), .v (sv v.s), .sl .full [], .sl .full [], .sl .full []]) := ⟨_, rfl⟩
      rw [← hT3e]
      have hT3 : T3.WF := by rw [hT3e]; exact hT2.set (by omega) _
      have w5 : T3.ob T0.next = some (.box 26 [.v (.int .i64 v.kind), .v (.int .i64 0), .v (sv v.s), .sl .full [], .sl .full [], .sl .full []]) := by rw [hT3e]; exact set_eq
      have z3 : T3.ob S.next = some (.box 26 [.v (.int .i64 0), .v (.int .i64 0), .v (.string ⟨#[]⟩), .sl .full [], .sl .full [], .sl .full []]) := by rw [hT3e, set_ne (by omega)]; exact z2
      have h3 := h2.obk (T := T3) (by rw [hT3e]; exact set_ne hkn) rfl
      have hF3 : RFr k S T3 := ⟨by rw [hT3e]; exact hFS2.next, fun j o hj e => by have := hS.lt e; rw [hT3e]; exact (set_ne (by omega)).trans (hFS2.ob j o hj e)⟩
      refine dloop_up (fun t => List.contains [52, 53, 54, 55, 56, 57, 58, 59, 60, 61, 62, 63, 64, 65, 66, 67, 68, 69, 70, 71, 72, 73, 74, 75, 76, 77, 78, 79, 80, 81, 82, 83, 84, 85, 86, 87, 88, 89, 90, 91, 92] t) (by kernel_rfl) (by exact hT3) 0 (fun j g T => g 52 = .v (.int .i64 0) ∧ T = T3) ⟨by (first | (simp (disch := first | decide | omega | (simp only [nx]; first | done | omega)) only [go_sem]; first | done | rfl) | rfl), rfl⟩ ?_
      rintro j g T hT hg ⟨q52, hTe⟩
      subst hTe
      (have q0 := hg 0 rfl; have q1 := hg 1 rfl; have q4 := hg 4 rfl; have q5 := hg 5 rfl; have q51 := hg 51 rfl; simp (disch := first | decide | omega | (simp only [nx]; first | done | omega)) only [go_sem] at q0 q1 q4 q5 q51; clear hg)
      have bz : decide ((0 : Int) < 0) = false := by decide
      (simp (disch := first | decide | omega | (simp only [nx]; first | done | omega)) only [go_sem, q52, q0, q1, q4, q5, q51, bz]; (repeat with_reducible refine aI ?_))
      refine (err_r h3).mono ?_
      rintro _ _ ⟨rfl, he⟩
      rw [he]
      clear he
      (simp (disch := first | decide | omega | (simp only [nx]; first | done | omega)) only [go_sem, q0, q1, q4, q5, q51, z3, w5]; (repeat with_reducible refine aI ?_))
      refine ⟨?_, ?_, ?_⟩
      · rw [encV_eq, s1, s2, s3, hn00]
        rfl
      · refine RAt.obk (set_ne (by omega)) h3 ?_
        simp only [hvh, hb1e, hvp0, List.length_cons, List.length_append, List.length_nil]
        try omega
      · exact ⟨hF3.next, fun j o hj e => by have := hS.lt e; exact (set_ne (by omega)).trans (hF3.ob j o hj e)⟩
    have k3 : (v.kind == 3) = false := by simp [e3]
    have e4 : v.kind = 4 := by omega
    have k4 : (v.kind == 4) = true := by simp [e4]
    (simp (disch := first | decide | omega | (simp only [nx]; first | done | omega)) only [go_sem, z1, u5, k1, k2, k3, k4]; (repeat with_reducible refine aI ?_))
    have hb1e : hb1 = numB v.s.length ++ v.s := by
      have := hvh
      unfold vheadB at this
      rw [if_neg e1, if_neg e2, if_pos (.inr e4)] at this
      injection this with _ this
      exact this.symm
    have hn00 : v.n = 0 := by omega
    have hnb : nameB v.s = true := by
      cases hb : nameB v.s with
      | true => rfl
      | false => exact absurd (.inr (.inr (.inl ⟨e4, hb⟩))) c2
    refine (name_r v.s (rest := rest) hkT h1 hL hi1 (by rw [hdr1, hb1e, hvp0, List.append_nil]) hnb).wf.mono ?_
    rintro _ T2 ⟨⟨rfl, h2, hF2⟩, hT2⟩
    have u2 := hF2.box _ _ _ (by omega) u5
    have z2 := hF2.box _ _ _ (by omega) z1
    have hn2 := hF2.next
    have hFS2 := hF1.trans hF2
    (simp (disch := first | decide | omega | (simp only [nx]; first | done | omega)) only [go_sem, u2, strD]; (repeat with_reducible refine aI ?_))
    obtain ⟨T3, hT3e⟩ : ∃ T3 : St, T3 = T2.set T0.next (.box 26 [.v (.int .i64 v.kind), .v (.int .i64 0), .v (sv v.s), .sl .full [], .sl .full [], .sl .full []]) := ⟨_, rfl⟩
    rw [← hT3e]
    have hT3 : T3.WF := by rw [hT3e]; exact hT2.set (by omega) _
    have w5 : T3.ob T0.next = some (.box 26 [.v (.int .i64 v.kind), .v (.int .i64 0), .v (sv v.s), .sl .full [], .sl .full [], .sl .full []]) := by rw [hT3e]; exact set_eq
    have z3 : T3.ob S.next = some (.box 26 [.v (.int .i64 0), .v (.int .i64 0), .v (.string ⟨#[]⟩), .sl .full [], .sl .full [], .sl .full []]) := by rw [hT3e, set_ne (by omega)]; exact z2
    have h3 := h2.obk (T := T3) (by rw [hT3e]; exact set_ne hkn) rfl
    have hF3 : RFr k S T3 := ⟨by rw [hT3e]; exact hFS2.next, fun j o hj e => by have := hS.lt e; rw [hT3e]; exact (set_ne (by omega)).trans (hFS2.ob j o hj e)⟩
    refine dloop_up (fun t => List.contains [52, 53, 54, 55, 56, 57, 58, 59, 60, 61, 62, 63, 64, 65, 66, 67, 68, 69, 70, 71, 72, 73, 74, 75, 76, 77, 78, 79, 80, 81, 82, 83, 84, 85, 86, 87, 88, 89, 90, 91, 92] t) (by kernel_rfl) (by exact hT3) 0 (fun j g T => g 52 = .v (.int .i64 0) ∧ T = T3) ⟨by (first | (simp (disch := first | decide | omega | (simp only [nx]; first | done | omega)) only [go_sem]; first | done | rfl) | rfl), rfl⟩ ?_
    rintro j g T hT hg ⟨q52, hTe⟩
    subst hTe
    (have q0 := hg 0 rfl; have q1 := hg 1 rfl; have q4 := hg 4 rfl; have q5 := hg 5 rfl; have q51 := hg 51 rfl; simp (disch := first | decide | omega | (simp only [nx]; first | done | omega)) only [go_sem] at q0 q1 q4 q5 q51; clear hg)
    have bz : decide ((0 : Int) < 0) = false := by decide
    (simp (disch := first | decide | omega | (simp only [nx]; first | done | omega)) only [go_sem, q52, q0, q1, q4, q5, q51, bz]; (repeat with_reducible refine aI ?_))
    refine (err_r h3).mono ?_
    rintro _ _ ⟨rfl, he⟩
    rw [he]
    clear he
    (simp (disch := first | decide | omega | (simp only [nx]; first | done | omega)) only [go_sem, q0, q1, q4, q5, q51, z3, w5]; (repeat with_reducible refine aI ?_))
    refine ⟨?_, ?_, ?_⟩
    · rw [encV_eq, s1, s2, s3, hn00]
      rfl
    · refine RAt.obk (set_ne (by omega)) h3 ?_
      simp only [hvh, hb1e, hvp0, List.length_cons, List.length_append, List.length_nil]
      try omega
    · exact ⟨hF3.next, fun j o hj e => by have := hS.lt e; exact (set_ne (by omega)).trans (hF3.ob j o hj e)⟩
end Go.Proofs.YtbcabejdchkpmaaGreatDoor

namespace Go.Proofs.YtbcabejdchkpmaaGreatDoor
open Go.RowKit
theorem DCalls.fin {P : Program} {g : FuncId} {args : List D} {S : St} {K : D → St → Prop} (h : DCalls P g args S fun d T => DFinT P S T d K) : DCalls P g args S K := fun base η w vs hM hr => by
  rcases h base η w vs hM hr with ⟨h1, h2⟩ | ⟨d, S', η', v, w', h1, ⟨S1, d1, t1, d', S'', q1, q2, q3, q4, q5, q6⟩, h3, h4⟩
  · refine .inl ⟨h1, h2.mono fun e w' ⟨d, S', η', v, ⟨S1, d1, t1, d', S'', q1, q2, q3, q4, q5, q6⟩, he, h3, h4⟩ => ?_⟩
    obtain ⟨η3, t2, t3⟩ := t1 _ _ _ _ h4.mem h3
    obtain ⟨g1, g2⟩ := goes_fin hM (h4.trans t2) q3 q4 q5
    exact ⟨d', S'', _, v, q6, he, g2 d' v q2 (q1 _ _ _ _ _ t3), g1⟩
  · obtain ⟨η3, t2, t3⟩ := t1 _ _ _ _ h4.mem h3
    obtain ⟨g1, g2⟩ := goes_fin hM (h4.trans t2) q3 q4 q5
    exact .inr ⟨d', S'', _, v, w', h1, q6, g2 d' v q2 (q1 _ _ _ _ _ t3), g1⟩
theorem frz_bDs (l : List UInt8) : frzL (l.map bD) = l.map bD := by simp [frzL_map, bD, D.frz, Function.comp_def]
theorem closed_bDs (l : List UInt8) : (D.sl .no (l.map bD)).closed := by
  simp only [D.closed, D.all, Own.all, true_and]
  refine allL_iff.2 fun d hd => ?_
  obtain ⟨b, _, rfl⟩ := List.mem_map.1 hd
  simp [bD, D.all]
theorem dpure_newB {g : FuncId} {args : List D} {bs : List UInt8} (h : ∀ S : St, DCalls Tryz.prog g args S fun d T => NewB S T d bs) : DPure Tryz.prog g args (.sl .no (bs.map bD)) := fun S base η w vs hM hr =>
  DCalls.fin ((h S).mono fun d T ⟨own, he, ho, h1, h2⟩ => DFin.t ⟨.sl .no (bs.map bD), S, by
      have := DLe.frz (D.sl own (bs.map bD))
      simp only [D.frz, frz_bDs] at this
      rw [he]; exact this, D.all_mono (fun _ h => h.elim) (closed_bDs bs), h1, Nat.le_refl _, fun k o hk => ⟨h2 k o hk, St.WF.lt (S := S) hM.fresh hk, fun _ _ _ => .inl hk⟩, rfl, rfl⟩) base η w vs hM hr
theorem refNum_d (n : Nat) (hn : IsU64 n) : DPure Tryz.prog 23 [.v (.int .u64 (n : Int))] (.sl .no ((numB n).map bD)) := dpure_newB fun S => refNum_w (n + 1) n S hn (Nat.lt_succ_self _)
theorem refByt_d (own : Own) (xs : List UInt8) (hx : xs.length ≤ 1000000) : DPure Tryz.prog 22 [.sl own (xs.map bD)] (.sl .no ((numB xs.length ++ xs).map bD)) := dpure_newB fun S => refByt_w own xs hx
theorem wts_take : ∀ (l : List DVal) (j : Nat), DVal.weights (l.take j) ≤ DVal.weights l
  | [], j => by simp
  | a :: l, 0 => by simp [DVal.weights]
  | a :: l, j + 1 => by have := wts_take l j; simp only [List.take_succ_cons, DVal.weights]; omega
theorem NewB.weak {S S1 T : St} {d : D} {bs : List UInt8} (h : NewB S1 T d bs) (hn : S.next ≤ S1.next) (hk : ∀ j o, S.ob j = some o → S1.ob j = some o) : NewB S T d bs := by
  obtain ⟨own, e, h1, h2, h3⟩ := h
  exact ⟨own, e, h1.imp id fun ⟨g, g1, g2, g3⟩ => ⟨g, g1, by omega, g3⟩, by omega, fun j o hj => h3 j o (hk j o hj)⟩
section
set_option maxRecDepth 200000
set_option maxHeartbeats 16000000
theorem refInt_d (n : Int) (hn : IsI64 n) : DPure Tryz.prog 21 [.v (.int .i64 n)] (.sl .no ((numB (zig n)).map bD)) := by
  have hz := zig_u64 n hn
  have hz' := hz
  unfold IsI64 at hn
  unfold IsU64 at hz'
  refine dpure_of_dwp mixed Tryz.func21 rfl (fun _ _ => by kernel_rfl) (rs := [.tmp 2]) rfl (by kernel_rfl) (closed_bDs _) (fun S hS => ?_)
  by_cases h0 : n < 0
  · have b1 : decide (n < 0) = true := by simp [h0]
    have e1 : zig n = (2 * (-(n + 1)) + 1).toNat := by unfold zig; rw [if_pos h0]
    have w1 : IntKind.i64.wrap (n + 1) = n + 1 := IntWalk.i64_in _ ⟨by omega, by omega⟩
    have w2 : IntKind.i64.wrap (0 - (n + 1)) = -(n + 1) := by rw [IntKind.wrap_i64]; omega
    have w3 : IntKind.u64.wrap (-(n + 1)) = -(n + 1) := by rw [IntKind.wrap_u64]; omega
    have w4 : IntKind.u64.wrap (2 * -(n + 1)) = 2 * -(n + 1) := by rw [IntKind.wrap_u64]; omega
    have w5 : IntKind.u64.wrap (2 * -(n + 1) + 1) = ((zig n : Nat) : Int) := by rw [IntKind.wrap_u64]; omega
    (simp (disch := first | decide | omega | (simp only [nx]; first | done | omega)) only [go_sem, b1, w1, w2, cv_i64u64, w3, w4, w5]; (repeat with_reducible refine aI ?_))
    refine DCalls.of_pure (refNum_d (zig n) hz) ?_
    (simp (disch := first | decide | omega | (simp only [nx]; first | done | omega)) only [go_sem]; (repeat with_reducible refine aI ?_))
    refine ⟨?_, (by (repeat' first | assumption | exact St.Sub.refl _ | exact RowOk.sub (by assumption) (by assumption) | refine St.Sub.trans ?_ (RowOk.sub (by assumption) (by assumption)) | refine St.Sub.add ?_ ?_ _ | refine St.Sub.set ?_ ?_ ?_ _ | refine St.Sub.keep ?_ ?_ | refine St.WF.leave ?_ _ | refine St.WF.add ?_ _ | refine St.WF.set ?_ ?_ _ | refine St.WF.grow ?_ _ _ _ | refine St.WF.keep ?_ ?_ | (first | omega | (simp only [RowOk.lo, nx]; first | done | omega))))⟩
    simp only [D.frz, frz_bDs]
  · have b1 : decide (n < 0) = false := by simp; omega
    have e1 : zig n = (2 * n).toNat := by unfold zig; rw [if_neg h0]
    have w3 : IntKind.u64.wrap n = n := by rw [IntKind.wrap_u64]; omega
    have w4 : IntKind.u64.wrap (2 * n) = ((zig n : Nat) : Int) := by rw [IntKind.wrap_u64]; omega
    (simp (disch := first | decide | omega | (simp only [nx]; first | done | omega)) only [go_sem, b1, cv_i64u64, w3, w4]; (repeat with_reducible refine aI ?_))
    refine DCalls.of_pure (refNum_d (zig n) hz) ?_
    (simp (disch := first | decide | omega | (simp only [nx]; first | done | omega)) only [go_sem]; (repeat with_reducible refine aI ?_))
    refine ⟨?_, (by (repeat' first | assumption | exact St.Sub.refl _ | exact RowOk.sub (by assumption) (by assumption) | refine St.Sub.trans ?_ (RowOk.sub (by assumption) (by assumption)) | refine St.Sub.add ?_ ?_ _ | refine St.Sub.set ?_ ?_ ?_ _ | refine St.Sub.keep ?_ ?_ | refine St.WF.leave ?_ _ | refine St.WF.add ?_ _ | refine St.WF.set ?_ ?_ _ | refine St.WF.grow ?_ _ _ _ | refine St.WF.keep ?_ ?_ | (first | omega | (simp only [RowOk.lo, nx]; first | done | omega))))⟩
    simp only [D.frz, frz_bDs]
theorem refValB_d (m : Nat) : ∀ (v : DVal), v.depth ≤ m → RV v → okV v → v.weight ≤ 2000 → DPure Tryz.prog 9 [encV v] (.sl .no ((bytesV m v).map bD)) := by
  induction m with
  | zero => intro v h; have := v.depth_pos; omega
  | succ m ih =>
    intro v hd hr ho_ hw
    refine dpure_newB fun S => ?_
    have hf := hr.facts
    have hh := hr.hereT
    have hp := (okV_eq v).1 ho_
    have hkk := hf.kind
    obtain ⟨c1, c2, c3, c4⟩ := here_parts hh
    unfold bad1 at c1
    unfold bad2 at c2
    have hbl := bytesV_len (m + 1) v hd hr ho_
    have hbv : bytesV (m + 1) v = vheadB v ++ vpartB m v v.parts.length := rfl
    have hhl := vhead_len hf ho_
    have hkb : (vkindB v).toNat = v.kind.toNat := by
      unfold vkindB
      rw [UInt8.toNat_ofNat_of_lt' (by show v.kind.toNat < 256; omega)]
    have hkb2 : ((vkindB v).toNat : Int) = v.kind := by rw [hkb]; omega
    have wk : IntKind.u8.wrap v.kind = ((vkindB v).toNat : Int) := by rw [hkb2, IntKind.wrap_u8]; omega
    refine dcalls_inline mixed Tryz.func9 rfl (fun _ _ => by kernel_rfl) (rs := [.tmp 2]) rfl (by kernel_rfl) (fun hS => ?_)
    (simp (disch := first | decide | omega | (simp only [nx]; first | done | omega)) only [go_sem, cv_i64u8, wk]; (repeat with_reducible refine aI ?_))
    have hu8 : [D.v (.int .u8 ((vkindB v).toNat : Int))] = [vkindB v].map bD := rfl
    by_cases e5 : v.kind = 5
    · have k1 : (v.kind == 1) = false := by simp [e5]
      have k2 : (v.kind == 2) = false := by simp [e5]
      have k3 : (v.kind == 3) = false := by simp [e5]
      have k4 : (v.kind == 4) = false := by simp [e5]
      have kk5 : (v.kind == 5) = true := by simp [e5]
      have hln : v.names.length = v.parts.length := by omega
      have hu0 : IsU64 v.parts.length := by unfold IsU64; omega
      have hn0 := numB_length_le v.parts.length hu0
      have wl : IntKind.u64.wrap (v.parts.length : Int) = (v.parts.length : Int) := wrap_u64 _ hu0
      (simp (disch := first | decide | omega | (simp only [nx]; first | done | omega)) only [go_sem, k1, k2, k3, k4, cv_i64u64, wl]; (repeat with_reducible refine aI ?_))
      refine DCalls.of_pure (refNum_d v.parts.length hu0) ?_
      (simp (disch := first | decide | omega | (simp only [nx]; first | done | omega)) only [go_sem]; (repeat with_reducible refine aI ?_))
      refine dapp_bytes2 (bs := [vkindB v]) (xs := numB v.parts.length) (.inl rfl) (by simp; omega) ?_
      have hN0 := NewB.grow (S := S.add (.box 26 (encV v).cells)) (T := S.add (.box 26 (encV v).cells)) (own := .full) (own2 := .full) (bs := [vkindB v]) (xs := numB v.parts.length) (hS.add _) (.inl rfl) (Nat.le_refl _) (fun _ _ h => h)
      have hhe : vheadB v = [vkindB v] ++ numB v.parts.length := by unfold vheadB; rw [if_neg (by omega), if_neg (by omega), if_neg (by omega)]; rfl
      rw [← hhe] at hN0 ⊢
      have hg0 : ((S.add (.box 26 (encV v).cells)).grow .full 5 ([vkindB v].length + (numB v.parts.length).length)).WF := (hS.add _).grow _ _ _
      revert hN0 hg0
      generalize St.grow (S.add (.box 26 (encV v).cells)) .full 5 ([vkindB v].length + (numB v.parts.length).length) = T0
      intro hN0 hg0
      (simp (disch := first | decide | omega | (simp only [nx]; first | done | omega)) only [go_sem]; (repeat with_reducible refine aI ?_))
      refine dloop_up (fun t => List.contains [3, 4, 42, 43, 44, 45, 46, 47, 48, 49, 50, 51, 52, 53, 54, 55, 56, 57, 58, 59, 60, 61, 62, 63, 64, 65, 66, 67, 68, 69, 70, 71, 72, 73, 74, 75, 76] t) (by kernel_rfl) (by exact hg0) v.parts.length (fun j g T => j ≤ v.parts.length ∧ g 4 = .v (.int .i64 ((j : Nat) : Int)) ∧ NewB (S.add (.box 26 (encV v).cells)) T (g 3) (vheadB v ++ vpartB m v j))
        ⟨by omega, by (first | (simp (disch := first | decide | omega | (simp only [nx]; first | done | omega)) only [go_sem]; first | done | rfl) | rfl), by rw [show vpartB m v 0 = [] from rfl, List.append_nil]; exact hN0⟩ ?_
      clear hN0 hg0
      rintro j g T hT hg ⟨le, q4, own3, q3, ho, hT1, hT2⟩
      (have q1 := hg 1 rfl; have q2 := hg 2 rfl; simp (disch := first | decide | omega | (simp only [nx]; first | done | omega)) only [go_sem] at q1 q2; clear hg)
      have t1 := hT2 _ _ (add_eq (S := S))
      by_cases hj : j < v.parts.length
      · have b1 : decide ((j : Int) < (v.parts.length : Int)) = true := by simp; omega
        have w1 : IntKind.i64.wrap ((j : Int) + 1) = ((j + 1 : Nat) : Int) := IntWalk.i64_in _ ⟨by omega, by omega⟩
        have hjn : j < v.names.length := by omega
        have hx12 := hf.names _ (List.getElem_mem hjn)
        have hkey : vkeyB v j = numB v.names[j].length ++ v.names[j] := by unfold vkeyB; rw [if_pos e5]; rw [getD_at hjn]
        have hkl := vkey_len hf ho_ j
        rw [hkey] at hkl
        have hvs := vpartB_succ m v j
        rw [getD_at hj, hkey] at hvs
        have hvl : (vpartB m v j).length ≤ 110 * v.weight + 30 * 12 := by
          have h1 := vpart_len m v j le hd hr ho_
          have h2 : DVal.weights (v.parts.take j) ≤ v.weight := by
            have := v.weight_eq
            have h3 := wts_take v.parts j
            omega
          omega
        have hsb : (strB v.names[j]).data.toList = v.names[j] := by simp [strB]
        (simp (disch := first | decide | omega | (simp only [nx]; first | done | omega)) only [go_sem, q1, q2, q4, q3, t1, b1, kk5, hjn, strD, sv, hsb]; (repeat with_reducible refine aI ?_))
        refine DCalls.of_pure (refByt_d .no v.names[j] (by omega)) ?_
        (simp (disch := first | decide | omega | (simp only [nx]; first | done | omega)) only [go_sem, q3]; (repeat with_reducible refine aI ?_))
        refine dapp_bytes2 (bs := vheadB v ++ vpartB m v j) (xs := numB v.names[j].length ++ v.names[j]) (ho.imp id fun ⟨g, h1, _, h2⟩ => ⟨g, h1, h2⟩) (by simp only [List.length_append] at hkl ⊢; omega) ?_
        have hN1 := NewB.grow (own2 := .full) (xs := numB v.names[j].length ++ v.names[j]) (hS.add _) ho hT1 hT2
        have hg1 := hT.grow own3 5 ((vheadB v ++ vpartB m v j).length + (numB v.names[j].length ++ v.names[j]).length)
        revert hN1 hg1
        generalize St.grow T own3 5 ((vheadB v ++ vpartB m v j).length + (numB v.names[j].length ++ v.names[j]).length) = T3
        rintro ⟨own4, q3b, ho4, hT31, hT32⟩ hg1
        rw [q3b]
        have t3 := hT32 _ _ (add_eq (S := S))
        have hmem := List.getElem_mem hj
        have hdj := DVal.depth_part hmem
        have hwj := DVal.weight_part hmem
        have hbj := bytesV_len m v.parts[j] (by omega) (hr.part hmem) (hp.2.2.2.2.2.2.2.2 _ hmem)
        (simp (disch := first | decide | omega | (simp only [nx]; first | done | omega)) only [go_sem, q1, q2, q4, t3, hj]; (repeat with_reducible refine aI ?_))
        refine DCalls.of_pure (ih v.parts[j] (by omega) (hr.part hmem) (hp.2.2.2.2.2.2.2.2 _ hmem) (by omega)) ?_
        (simp (disch := first | decide | omega | (simp only [nx]; first | done | omega)) only [go_sem]; (repeat with_reducible refine aI ?_))
        refine dapp_bytes2 (bs := (vheadB v ++ vpartB m v j) ++ (numB v.names[j].length ++ v.names[j])) (xs := bytesV m v.parts[j]) (ho4.imp id fun ⟨g, h1, _, h2⟩ => ⟨g, h1, h2⟩) (by simp only [List.length_append] at hkl ⊢; omega) ?_
        have hN2 := NewB.grow (own2 := .full) (xs := bytesV m v.parts[j]) (hS.add _) ho4 hT31 hT32
        (simp (disch := first | decide | omega | (simp only [nx]; first | done | omega)) only [go_sem, q4, w1]; (repeat with_reducible refine aI ?_))
        refine ⟨by omega, _, fun _ _ h => h, by omega, by (first | (simp (disch := first | decide | omega | (simp only [nx]; first | done | omega)) only [go_sem]; first | done | rfl) | rfl), ?_⟩
        have e : vheadB v ++ vpartB m v (j + 1) = ((vheadB v ++ vpartB m v j) ++ (numB v.names[j].length ++ v.names[j])) ++ bytesV m v.parts[j] := by rw [hvs]; simp only [List.append_assoc]
        rw [e]
        exact hN2
      · have b1 : decide ((j : Int) < (v.parts.length : Int)) = false := by simp; omega
        have hje : j = v.parts.length := by omega
        subst hje
        (simp (disch := first | decide | omega | (simp only [nx]; first | done | omega)) only [go_sem, q4, q1, q2, t1, b1, q3]; (repeat with_reducible refine aI ?_))
        rw [hbv]
        exact NewB.weak (S1 := S.add (.box 26 (encV v).cells)) ⟨own3, rfl, ho, hT1, hT2⟩ (Nat.le_succ _) (add_keep hS _)
    by_cases e6 : v.kind = 6
    · have k1 : (v.kind == 1) = false := by simp [e6]
      have k2 : (v.kind == 2) = false := by simp [e6]
      have k3 : (v.kind == 3) = false := by simp [e6]
      have k4 : (v.kind == 4) = false := by simp [e6]
      have kk5 : (v.kind == 5) = false := by simp [e6]
      have hln : v.ids.length = v.parts.length := by omega
      have hu0 : IsU64 v.parts.length := by unfold IsU64; omega
      have hn0 := numB_length_le v.parts.length hu0
      have wl : IntKind.u64.wrap (v.parts.length : Int) = (v.parts.length : Int) := wrap_u64 _ hu0
      (simp (disch := first | decide | omega | (simp only [nx]; first | done | omega)) only [go_sem, k1, k2, k3, k4, cv_i64u64, wl]; (repeat with_reducible refine aI ?_))
      refine DCalls.of_pure (refNum_d v.parts.length hu0) ?_
      (simp (disch := first | decide | omega | (simp only [nx]; first | done | omega)) only [go_sem]; (repeat with_reducible refine aI ?_))
      refine dapp_bytes2 (bs := [vkindB v]) (xs := numB v.parts.length) (.inl rfl) (by simp; omega) ?_
      have hN0 := NewB.grow (S := S.add (.box 26 (encV v).cells)) (T := S.add (.box 26 (encV v).cells)) (own := .full) (own2 := .full) (bs := [vkindB v]) (xs := numB v.parts.length) (hS.add _) (.inl rfl) (Nat.le_refl _) (fun _ _ h => h)
      have hhe : vheadB v = [vkindB v] ++ numB v.parts.length := by unfold vheadB; rw [if_neg (by omega), if_neg (by omega), if_neg (by omega)]; rfl
      rw [← hhe] at hN0 ⊢
      have hg0 : ((S.add (.box 26 (encV v).cells)).grow .full 5 ([vkindB v].length + (numB v.parts.length).length)).WF := (hS.add _).grow _ _ _
      revert hN0 hg0
      generalize St.grow (S.add (.box 26 (encV v).cells)) .full 5 ([vkindB v].length + (numB v.parts.length).length) = T0
      intro hN0 hg0
      (simp (disch := first | decide | omega | (simp only [nx]; first | done | omega)) only [go_sem]; (repeat with_reducible refine aI ?_))
      refine dloop_up (fun t => List.contains [3, 4, 42, 43, 44, 45, 46, 47, 48, 49, 50, 51, 52, 53, 54, 55, 56, 57, 58, 59, 60, 61, 62, 63, 64, 65, 66, 67, 68, 69, 70, 71, 72, 73, 74, 75, 76] t) (by kernel_rfl) (by exact hg0) v.parts.length (fun j g T => j ≤ v.parts.length ∧ g 4 = .v (.int .i64 ((j : Nat) : Int)) ∧ NewB (S.add (.box 26 (encV v).cells)) T (g 3) (vheadB v ++ vpartB m v j))
        ⟨by omega, by (first | (simp (disch := first | decide | omega | (simp only [nx]; first | done | omega)) only [go_sem]; first | done | rfl) | rfl), by rw [show vpartB m v 0 = [] from rfl, List.append_nil]; exact hN0⟩ ?_
      clear hN0 hg0
      rintro j g T hT hg ⟨le, q4, own3, q3, ho, hT1, hT2⟩
      (have q1 := hg 1 rfl; have q2 := hg 2 rfl; simp (disch := first | decide | omega | (simp only [nx]; first | done | omega)) only [go_sem] at q1 q2; clear hg)
      have t1 := hT2 _ _ (add_eq (S := S))
      by_cases hj : j < v.parts.length
      · have b1 : decide ((j : Int) < (v.parts.length : Int)) = true := by simp; omega
        have w1 : IntKind.i64.wrap ((j : Int) + 1) = ((j + 1 : Nat) : Int) := IntWalk.i64_in _ ⟨by omega, by omega⟩
        have hjn : j < v.ids.length := by omega
        have hu : IsU64 v.ids[j] := isU64 (hp.2.2.2.2.2.1 _ (List.getElem_mem hjn))
        have hkey : vkeyB v j = numB v.ids[j] := by unfold vkeyB; rw [if_neg e5]; rw [getD_at hjn]
        have hkl := vkey_len hf ho_ j
        rw [hkey] at hkl
        have hvs := vpartB_succ m v j
        rw [getD_at hj, hkey] at hvs
        have hvl : (vpartB m v j).length ≤ 110 * v.weight + 30 * 12 := by
          have h1 := vpart_len m v j le hd hr ho_
          have h2 : DVal.weights (v.parts.take j) ≤ v.weight := by
            have := v.weight_eq
            have h3 := wts_take v.parts j
            omega
          omega
        (simp (disch := first | decide | omega | (simp only [nx]; first | done | omega)) only [go_sem, q1, q2, q4, q3, t1, b1, kk5, hjn, u64D]; (repeat with_reducible refine aI ?_))
        refine DCalls.of_pure (refNum_d v.ids[j] hu) ?_
        (simp (disch := first | decide | omega | (simp only [nx]; first | done | omega)) only [go_sem, q3]; (repeat with_reducible refine aI ?_))
        refine dapp_bytes2 (bs := vheadB v ++ vpartB m v j) (xs := numB v.ids[j]) (ho.imp id fun ⟨g, h1, _, h2⟩ => ⟨g, h1, h2⟩) (by simp only [List.length_append] at hkl ⊢; omega) ?_
        have hN1 := NewB.grow (own2 := .full) (xs := numB v.ids[j]) (hS.add _) ho hT1 hT2
        have hg1 := hT.grow own3 5 ((vheadB v ++ vpartB m v j).length + (numB v.ids[j]).length)
        revert hN1 hg1
        generalize St.grow T own3 5 ((vheadB v ++ vpartB m v j).length + (numB v.ids[j]).length) = T3
        rintro ⟨own4, q3b, ho4, hT31, hT32⟩ hg1
        rw [q3b]
        have t3 := hT32 _ _ (add_eq (S := S))
        have hmem := List.getElem_mem hj
        have hdj := DVal.depth_part hmem
        have hwj := DVal.weight_part hmem
        have hbj := bytesV_len m v.parts[j] (by omega) (hr.part hmem) (hp.2.2.2.2.2.2.2.2 _ hmem)
        (simp (disch := first | decide | omega | (simp only [nx]; first | done | omega)) only [go_sem, q1, q2, q4, t3, hj]; (repeat with_reducible refine aI ?_))
        refine DCalls.of_pure (ih v.parts[j] (by omega) (hr.part hmem) (hp.2.2.2.2.2.2.2.2 _ hmem) (by omega)) ?_
        (simp (disch := first | decide | omega | (simp only [nx]; first | done | omega)) only [go_sem]; (repeat with_reducible refine aI ?_))
        refine dapp_bytes2 (bs := (vheadB v ++ vpartB m v j) ++ (numB v.ids[j])) (xs := bytesV m v.parts[j]) (ho4.imp id fun ⟨g, h1, _, h2⟩ => ⟨g, h1, h2⟩) (by simp only [List.length_append] at hkl ⊢; omega) ?_
        have hN2 := NewB.grow (own2 := .full) (xs := bytesV m v.parts[j]) (hS.add _) ho4 hT31 hT32
        (simp (disch := first | decide | omega | (simp only [nx]; first | done | omega)) only [go_sem, q4, w1]; (repeat with_reducible refine aI ?_))
        refine ⟨by omega, _, fun _ _ h => h, by omega, by (first | (simp (disch := first | decide | omega | (simp only [nx]; first | done | omega)) only [go_sem]; first | done | rfl) | rfl), ?_⟩
        have e : vheadB v ++ vpartB m v (j + 1) = ((vheadB v ++ vpartB m v j) ++ (numB v.ids[j])) ++ bytesV m v.parts[j] := by rw [hvs]; simp only [List.append_assoc]
        rw [e]
        exact hN2
      · have b1 : decide ((j : Int) < (v.parts.length : Int)) = false := by simp; omega
        have hje : j = v.parts.length := by omega
        subst hje
        (simp (disch := first | decide | omega | (simp only [nx]; first | done | omega)) only [go_sem, q4, q1, q2, t1, b1, q3]; (repeat with_reducible refine aI ?_))
        rw [hbv]
        exact NewB.weak (S1 := S.add (.box 26 (encV v).cells)) ⟨own3, rfl, ho, hT1, hT2⟩ (Nat.le_succ _) (add_keep hS _)
    obtain ⟨s1, s2, s3⟩ := shape_scalar hh e5 e6
    have hvp0 : vpartB m v v.parts.length = [] := by rw [s3]; rfl
    by_cases e1 : v.kind = 1
    · have k1 : (v.kind == 1) = true := by simp [e1]
      by_cases en : v.n = 1
      · have wn : IntKind.u8.wrap v.n = 1 := by rw [en]; decide
        (simp (disch := first | decide | omega | (simp only [nx]; first | done | omega)) only [go_sem, k1, cv_i64u8, wn]; (repeat with_reducible refine aI ?_))
        refine dapp_bytes2 (bs := [vkindB v]) (xs := [1]) (.inl rfl) (by simp) ?_
        (simp (disch := first | decide | omega | (simp only [nx]; first | done | omega)) only [go_sem]; (repeat with_reducible refine aI ?_))
        have := NewB.grow (S := S) (T := S.add (.box 26 (encV v).cells)) (own := .full) (own2 := .full) (bs := [vkindB v]) (xs := [1]) hS (.inl rfl) (Nat.le_succ _) (add_keep hS _)
        rw [hbv, hvp0, List.append_nil, show vheadB v = [vkindB v] ++ [1] from by unfold vheadB; rw [if_pos e1, if_pos en]; rfl]
        exact this
      · have en0 : v.n = 0 := by omega
        have wn : IntKind.u8.wrap v.n = 0 := by rw [en0]; decide
        (simp (disch := first | decide | omega | (simp only [nx]; first | done | omega)) only [go_sem, k1, cv_i64u8, wn]; (repeat with_reducible refine aI ?_))
        refine dapp_bytes2 (bs := [vkindB v]) (xs := [0]) (.inl rfl) (by simp) ?_
        (simp (disch := first | decide | omega | (simp only [nx]; first | done | omega)) only [go_sem]; (repeat with_reducible refine aI ?_))
        have := NewB.grow (S := S) (T := S.add (.box 26 (encV v).cells)) (own := .full) (own2 := .full) (bs := [vkindB v]) (xs := [0]) hS (.inl rfl) (Nat.le_succ _) (add_keep hS _)
        rw [hbv, hvp0, List.append_nil, show vheadB v = [vkindB v] ++ [0] from by unfold vheadB; rw [if_pos e1, if_neg en]; rfl]
        exact this
    have k1 : (v.kind == 1) = false := by simp [e1]
    by_cases e2 : v.kind = 2
    · have k2 : (v.kind == 2) = true := by simp [e2]
      (simp (disch := first | decide | omega | (simp only [nx]; first | done | omega)) only [go_sem, k1, k2]; (repeat with_reducible refine aI ?_))
      refine DCalls.of_pure (refInt_d v.n (isI64 hp.2.1)) ?_
      have hzl := numB_length_le (zig v.n) (zig_u64 v.n (isI64 hp.2.1))
      (simp (disch := first | decide | omega | (simp only [nx]; first | done | omega)) only [go_sem]; (repeat with_reducible refine aI ?_))
      refine dapp_bytes2 (bs := [vkindB v]) (xs := numB (zig v.n)) (.inl rfl) (by simp; omega) ?_
      (simp (disch := first | decide | omega | (simp only [nx]; first | done | omega)) only [go_sem]; (repeat with_reducible refine aI ?_))
      have := NewB.grow (S := S) (T := S.add (.box 26 (encV v).cells)) (own := .full) (own2 := .full) (bs := [vkindB v]) (xs := numB (zig v.n)) hS (.inl rfl) (Nat.le_succ _) (add_keep hS _)
      rw [hbv, hvp0, List.append_nil, show vheadB v = [vkindB v] ++ numB (zig v.n) from by unfold vheadB; rw [if_neg e1, if_pos e2]; rfl]
      exact this
    have k2 : (v.kind == 2) = false := by simp [e2]
    have hsl := hf.s
    have hnl := numB_length_le v.s.length (by omega)
    have hsb : (strB v.s).data.toList = v.s := by simp [strB]
    by_cases e3 : v.kind = 3
    · have k3 : (v.kind == 3) = true := by simp [e3]
      (simp (disch := first | decide | omega | (simp only [nx]; first | done | omega)) only [go_sem, k1, k2, k3, sv, hsb]; (repeat with_reducible refine aI ?_))
      refine DCalls.of_pure (refByt_d .no v.s (by omega)) ?_
      (simp (disch := first | decide | omega | (simp only [nx]; first | done | omega)) only [go_sem]; (repeat with_reducible refine aI ?_))
      refine dapp_bytes2 (bs := [vkindB v]) (xs := numB v.s.length ++ v.s) (.inl rfl) (by simp; omega) ?_
      (simp (disch := first | decide | omega | (simp only [nx]; first | done | omega)) only [go_sem]; (repeat with_reducible refine aI ?_))
      have := NewB.grow (S := S) (T := S.add (.box 26 (encV v).cells)) (own := .full) (own2 := .full) (bs := [vkindB v]) (xs := (numB v.s.length ++ v.s)) hS (.inl rfl) (Nat.le_succ _) (add_keep hS _)
      rw [hbv, hvp0, List.append_nil, show vheadB v = [vkindB v] ++ (numB v.s.length ++ v.s) from by unfold vheadB; rw [if_neg e1, if_neg e2, if_pos (.inl e3)]; rfl]
      exact this
    have k3 : (v.kind == 3) = false := by simp [e3]
    have e4 : v.kind = 4 := by omega
    have k4 : (v.kind == 4) = true := by simp [e4]
    (simp (disch := first | decide | omega | (simp only [nx]; first | done | omega)) only [go_sem, k1, k2, k3, k4, sv, hsb]; (repeat with_reducible refine aI ?_))
    refine DCalls.of_pure (refByt_d .no v.s (by omega)) ?_
    (simp (disch := first | decide | omega | (simp only [nx]; first | done | omega)) only [go_sem]; (repeat with_reducible refine aI ?_))
    refine dapp_bytes2 (bs := [vkindB v]) (xs := numB v.s.length ++ v.s) (.inl rfl) (by simp; omega) ?_
    (simp (disch := first | decide | omega | (simp only [nx]; first | done | omega)) only [go_sem]; (repeat with_reducible refine aI ?_))
    have := NewB.grow (S := S) (T := S.add (.box 26 (encV v).cells)) (own := .full) (own2 := .full) (bs := [vkindB v]) (xs := (numB v.s.length ++ v.s)) hS (.inl rfl) (Nat.le_succ _) (add_keep hS _)
    rw [hbv, hvp0, List.append_nil, show vheadB v = [vkindB v] ++ (numB v.s.length ++ v.s) from by unfold vheadB; rw [if_neg e1, if_neg e2, if_pos (.inr e4)]; rfl]
    exact this
end
end Go.Proofs.YtbcabejdchkpmaaGreatDoor
