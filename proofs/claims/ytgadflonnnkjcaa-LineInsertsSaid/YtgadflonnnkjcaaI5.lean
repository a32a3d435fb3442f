/- LineInserts answers true for any marks and any mark, and leaves its arguments as they were. Conditions: none but the statement's own. -/
import Derived.Test.YtgadflonnnkjcaaI4
import Derived.Test.YtgadflonnnkjcaaRows
set_option linter.unusedVariables false
set_option linter.unusedSimpArgs false
namespace Go.Proofs.Ytgadflonnnkjcaa
open Go.RowKit
set_option maxHeartbeats 4000000 in
set_option maxRecDepth 20000 in
theorem ins_mk {S : St} {k c i n : Nat} {es zs : List D} {x : D} {o : Own} {K : D → St → Prop} (hk : S.ob k = some (ownOb 26 es zs c)) (hl : (flat es ++ zs).length = c * 33) (hw : ∀ d ∈ es, d.width = 33) (hx : x.width = 33) (hi : i ≤ es.length) (hn : es.length ≤ 1073741824) (hkn : k < S.next) (hnn : n = es.length)
    (h : ∀ (c' : Nat) (zs' : List D), es.length + 1 ≤ c' → (flat (es.take i ++ [x] ++ es.drop i) ++ zs').length = c' * 33 → K (.win S.next 0 (n + 1) c') ((S.drop k).add (ownOb 26 (es.take i ++ [x] ++ es.drop i) zs' c'))) :
    DCalls Try.prog 26 [.win k 0 n c, .v (.int .i64 i), .sl o [x]] S K := by
  subst hnn
  have hc := ownOb_len hw (by omega) hl
  have heT : elT Try.prog 22 = some 26 := by kernel_rfl
  have heS : (elT Try.prog 22).isSome = true := by rw [heT]; rfl
  have hsz : szOf Try.prog 26 = 33 := by kernel_rfl
  have hby : bytesOf Try.prog 26 = 40 := by kernel_rfl
  have hzT : zeroT Try.prog 26 = true := by kernel_rfl
  have hzO : zeroOk Try.prog 26 = true := by kernel_rfl
  have hiS := (zeroT_pos hzT).2
  refine DCalls.thaw ?_
  refine dcalls_inline mixed Try.func26 rfl (fun _ _ => by kernel_rfl) (rs := [.tmp 6]) rfl (by kernel_rfl) (fun hS => ?_)
  have hwr : IntKind.i64.wrap ((es.length : Int) + ((1 : Nat) : Int)) = ((es.length + 1 : Nat) : Int) := by rw [IntKind.wrap_i64]; omega
  have h10 : (((1 : Nat) : Int) == 0) = false := by decide
  by_cases hin : i = es.length
  · subst hin
    have b1 : ((es.length : Int) == (es.length : Int)) = true := by simp
    (simp (disch := first | decide | omega | (simp only [nx]; first | done | omega)) only [go_sem, hwr, h10, b1]; (repeat with_reducible refine aI ?_))
    refine dappend_own heT heS hzT hzO hk (by rw [hsz]; exact hl) (by rw [hsz]; exact hw) (es2 := [x]) (srcOk_one (by rw [hsz]; exact hx)) rfl (by simp; omega) (by rw [hby]; simp; omega) hkn fun c' zs' h1 h2 => ?_
    (simp (disch := first | decide | omega | (simp only [nx]; first | done | omega)) only [go_sem]; (repeat with_reducible refine aI ?_))
    refine ⟨_, _, Thaw.refl _ _ _, ?_⟩
    have := h c' zs' h1
    rw [List.take_of_length_le (Nat.le_refl _), List.drop_of_length_le (Nat.le_refl _), List.append_nil] at this
    exact this (by rw [hsz] at h2; exact h2)
  · have b1 : ((i : Int) == (es.length : Int)) = false := by simp; omega
    have hcap : 0 < c := by omega
    have hk0 := hk
    rw [ownOb_box hcap] at hk
    by_cases hgr : c < es.length + 1
    · have b2 : decide ((c : Int) < ((es.length + 1 : Nat) : Int)) = true := by simp; omega
      have hwr2 : IntKind.i64.wrap (((es.length + 1 : Nat) : Int) - (i : Int)) = ((es.length + 1 - i : Nat) : Int) := by rw [IntKind.wrap_i64]; omega
      have hwr3 : IntKind.i64.wrap ((i : Int) + ((1 : Nat) : Int)) = ((i + 1 : Nat) : Int) := by rw [IntKind.wrap_i64]; omega
      (simp (disch := first | decide | omega | (simp only [nx]; first | done | omega)) only [go_sem, hwr, h10, b1, b2, hwr2]; (repeat with_reducible refine aI ?_))
      have hso := srcOk_own0 (c' := c) hk0 hc hw hi
      refine dappend_zeros heT (kk := .i64) (by kernel_rfl) hzT hzO hso (by omega) (by omega) (by omega) (by rw [hby]; omega) fun c' zs' h1 h2 => ?_
      have hfx : (flat [x]).length = 33 := by simpa [flat, D.width] using hx
      have hfB : (flat (es.take i)).length = i * 33 := by rw [dflat_length fun d hd => hw d (List.mem_of_mem_take hd), List.length_take]; congr 1; omega
      have hfC : (flat (es.drop i)).length = (es.length - i) * 33 := by rw [dflat_length fun d hd => hw d (List.mem_of_mem_drop hd), List.length_drop]
      rw [hsz] at h2
      (simp (disch := first | decide | omega | (simp only [nx]; first | done | omega)) only [go_sem, winOff_lt]; (repeat with_reducible refine aI ?_))
      have hmin : Nat.min 1 (i + (es.length + 1 - i) - i) = 1 := by show min _ _ = _; omega
      have hzl : 33 ≤ zs'.length := by rw [List.length_append, hfB] at h2; omega
      refine dcopy_win heT hiS (m := 1) (cs := flat (es.take i) ++ zs') (bt := 26) (news := flat [x]) (by (first | (simp (disch := first | decide | omega | (simp only [nx]; first | done | omega)) only [go_sem]; first | done | rfl) | rfl)) (srcOk_one (by rw [hsz]; exact hx)) (by rw [hsz, h2, hmin]; omega) (cs' := flat (es.take i) ++ flat [x] ++ zs'.drop 33) (by rw [hsz, hmin, List.take_of_length_le (l := flat [x]) (by omega), splice_at (by rw [hfB]), hfx]) ?_
      (simp (disch := first | decide | omega | (simp only [nx]; first | done | omega)) only [go_sem, winOff_lt, hwr3]; (repeat with_reducible refine aI ?_))
      refine ddraw_mk 8 (by kernel_rfl) ?_
      (simp (disch := first | decide | omega | (simp only [nx]; first | done | omega)) only [go_sem, winOff_lt, hwr3]; (repeat with_reducible refine aI ?_))
      have hmin2 : Nat.min (es.length - i) (i + (es.length + 1 - i) - (i + 1)) = es.length - i := by show min _ _ = _; omega
      have hso2 := srcOk_own (S := (S.add (.box 26 (flat (es.take i) ++ zs'))).set S.next (.box 26 (flat (es.take i) ++ flat [x] ++ zs'.drop 33))) (l := i) (n := es.length - i) (c' := c - i) (k := k) (c := c) (e := 26) (es := es) (zs := zs) (z := 33) (by (first | (simp (disch := first | decide | omega | (simp only [nx]; first | done | omega)) only [go_sem, hk0]; first | done | rfl) | rfl)) hc hw (by omega)
      rw [List.take_of_length_le (l := es.drop i) (by rw [List.length_drop]; omega)] at hso2
      refine dcopy_win heT hiS (m := es.length - i) (cs := flat (es.take i) ++ flat [x] ++ zs'.drop 33) (bt := 26) (news := flat (es.drop i)) (by (first | (simp (disch := first | decide | omega | (simp only [nx]; first | done | omega)) only [go_sem]; first | done | rfl) | rfl)) (by rw [hsz]; exact hso2) (by rw [hsz, hmin2]; simp only [List.length_append, hfB, hfx, List.length_drop]; rw [List.length_append, hfB] at h2; omega) (cs' := flat (es.take i ++ [x] ++ es.drop i) ++ (zs'.drop 33).drop ((es.length - i) * 33)) (by rw [hsz, hmin2, List.take_of_length_le (l := flat (es.drop i)) (by omega), splice_at (by rw [List.length_append, hfB, hfx]; omega), hfC, flat_append, flat_append]) ?_
      (simp (disch := first | decide | omega | (simp only [nx]; first | done | omega)) only [go_sem]; (repeat with_reducible refine aI ?_))
      refine ⟨_, _, thaw_drop k _, ?_⟩
      rw [St.add_set, St.add_set, St.add_drop _ _ hkn]
      have e1 : i + (es.length + 1 - i) = es.length + 1 := by omega
      rw [e1] at h1 ⊢
      have := h c' (List.drop ((es.length - i) * 33) (List.drop 33 zs')) h1 (by
        simp only [List.length_append, flat_append, hfB, hfC, hfx, List.length_drop]
        rw [List.length_append, hfB] at h2
        omega)
      rw [ownOb_box (by omega)] at this
      exact this
    · have b2 : decide ((c : Int) < ((es.length + 1 : Nat) : Int)) = false := by simp; omega
      have hwr3 : IntKind.i64.wrap ((i : Int) + ((1 : Nat) : Int)) = ((i + 1 : Nat) : Int) := by rw [IntKind.wrap_i64]; omega
      (simp (disch := first | decide | omega | (simp only [nx]; first | done | omega)) only [go_sem, hwr, hwr3, h10, b1, b2, winOff_lt]; (repeat with_reducible refine aI ?_))
      refine doverlaps (tr := 4) Try.func34 (by kernel_rfl) (by kernel_rfl) (by kernel_rfl) (by kernel_rfl) heT hiS hk (fun e => by rw [e] at hl; simp at hl; omega) ?_
      (simp (disch := first | decide | omega | (simp only [nx]; first | done | omega)) only [go_sem, winOff_lt]; (repeat with_reducible refine aI ?_))
      refine ddraw_mk 8 (by kernel_rfl) ?_
      (simp (disch := first | decide | omega | (simp only [nx]; first | done | omega)) only [go_sem, winOff_lt, hwr3]; (repeat with_reducible refine aI ?_))
      have hfx : (flat [x]).length = 33 := by simpa [flat, D.width] using hx
      have hfB : (flat (es.take i)).length = i * 33 := by rw [dflat_length fun d hd => hw d (List.mem_of_mem_take hd), List.length_take]; congr 1; omega
      have hfC : (flat (es.drop i)).length = (es.length - i) * 33 := by rw [dflat_length fun d hd => hw d (List.mem_of_mem_drop hd), List.length_drop]
      have hff : flat es = flat (es.take i) ++ flat (es.drop i) := by rw [← flat_append, List.take_append_drop]
      have hzl : 33 ≤ zs.length := by rw [List.length_append, hff, List.length_append, hfB, hfC] at hl; omega
      have hmin : Nat.min (es.length + 1 - i) (es.length + 1 - (i + 1)) = es.length - i := by show min _ _ = _; omega
      obtain ⟨cs1, hcs1⟩ : ∃ cs1, splice (flat es ++ zs) ((i + 1) * 33) (flat (es.drop i)) = cs1 := ⟨_, rfl⟩
      have hcl : cs1.length = c * 33 := by rw [← hcs1, splice_len, hl]; rw [hl, hfC]; omega
      refine dcopy_win heT hiS (m := es.length + 1 - i) hk (srcOk_win hk (by rw [hsz, hl]; omega)) (by rw [hsz, hmin, hl]; omega) (cs' := cs1) (by
        rw [hsz, hmin, ← hcs1, List.take_take, Nat.min_eq_left (by omega), List.drop_append_of_le_length (by rw [hff, List.length_append, hfB]; omega), flat_drop hw, List.take_append_of_le_length (by omega), List.take_of_length_le (by omega)]) ?_
      (simp (disch := first | decide | omega | (simp only [nx]; first | done | omega)) only [go_sem, winOff_lt, hwr3]; (repeat with_reducible refine aI ?_))
      have hmin2 : Nat.min 1 (es.length + 1 - i) = 1 := by show min _ _ = _; omega
      refine dcopy_win heT hiS (m := 1) (cs := cs1) (bt := 26) (news := flat [x]) (by (first | (simp (disch := first | decide | omega | (simp only [nx]; first | done | omega)) only [go_sem]; first | done | rfl) | rfl)) (srcOk_one (by rw [hsz]; exact hx)) (by rw [hsz, hmin2, hcl]; omega) (cs' := flat (es.take i ++ [x] ++ es.drop i) ++ zs.drop 33) (by rw [hsz, hmin2, List.take_of_length_le (l := flat [x]) (by omega), ← hcs1, hff, ins_old (by rw [hfB]) (by rw [hfB, hfx]; omega) (by omega), hfx, flat_append, flat_append]) ?_
      (simp (disch := first | decide | omega | (simp only [nx]; first | done | omega)) only [go_sem]; (repeat with_reducible refine aI ?_))
      rw [St.set_set]
      refine ⟨_, _, thaw_rename (o := .box 26 (flat (es.take i ++ [x] ++ es.drop i) ++ zs.drop 33)) (by simp [St.set]), ?_⟩
      rw [St.set_drop]
      have := h c (zs.drop 33) (by omega) (by
        simp only [List.length_append, flat_append, hfB, hfC, hfx, List.length_drop]
        rw [List.length_append, hff, List.length_append, hfB, hfC] at hl
        omega)
      rw [ownOb_box (by omega)] at this
      exact this

theorem go_at {P : Program} {g : FuncId} {args : List D} {S : St} {d : D} {K : D → St → Prop} (h : DAt P g args S d) (k : K d S) : DCalls P g args S K := h.mono fun _ _ hq => by rw [hq.1, hq.2]; exact k
theorem bin_shrL {P : Program} {t : TypeId} {x y : Operand} (a : Nat) : dbin P .shr t x y (.v (.int .u64 a)) (.v (.int .u64 1)) = some (True, .v (.int .u64 ((a / 2 : Nat) : Int))) := by
  simp [dbin, eqGuard, binOp, shift_shr .u64 .u64 (a : Int) 1 (by omega) (by decide), pureRun_bind, pureRun_pure]
theorem cvL_iu (n : Int) : pureRun Try.prog (convert 3 53 (.int .i64 n)) = some (.int .u64 (IntKind.u64.wrap n)) := by kernel_rfl
theorem cvL_ui (n : Int) : pureRun Try.prog (convert 53 3 (.int .u64 n)) = some (.int .i64 (IntKind.i64.wrap n)) := by kernel_rfl
section
set_option maxRecDepth 200000
set_option maxHeartbeats 4000000
theorem search_at {S : St} {n k : Nat} {g : FuncId} {cs : List D} (hn : n ≤ 1000000) (hk : k ≤ n) (hc : ∀ i, i < n → DSt Try.prog g (.v (.int .i64 ((i : Nat) : Int)) :: cs) S (.v (.bool (decide (k ≤ i))))) :
    DAt Try.prog 27 [.v (.int .i64 ((n : Nat) : Int)), .fn (.func g) [] cs] S (.v (.int .i64 ((k : Nat) : Int))) := by
  refine dat_of_dwpL mixed Try.func27 rfl (fun _ _ => by kernel_rfl) (rs := [.tmp 4]) rfl (by kernel_rfl) (by trivial) (fun hS => ?_)
  (simp (disch := first | decide | omega | (simp only [nx]; first | done | omega)) only [go_sem]; (repeat with_reducible refine aI ?_))
  refine dloop_up (fun t => List.contains [5, 6, 7, 9, 10, 11, 12, 13, 14, 15, 16, 17, 18, 19, 20, 21, 22, 23, 24] t) (by kernel_rfl) (by exact (by (repeat' first | assumption | refine St.WF.leave ?_ _ | refine St.WF.add ?_ _ | refine St.WF.set ?_ ?_ _ | refine St.WF.grow ?_ _ _ _ | refine St.WF.keep ?_ ?_ | (first | omega | (simp only [RowOk.lo, nx]; first | done | omega))))) n (fun t g T => ∃ lo hi : Nat, lo ≤ k ∧ k ≤ hi ∧ hi ≤ n ∧ hi + t ≤ n + lo ∧ g 5 = .v (.int .i64 ((lo : Nat) : Int)) ∧ g 6 = .v (.int .i64 ((hi : Nat) : Int)) ∧ S.Sub T) ⟨0, n, by omega, hk, by omega, by omega, by (first | (simp (disch := first | decide | omega | (simp only [nx]; first | done | omega)) only [go_sem]; first | done | rfl) | rfl), by (first | (simp (disch := first | decide | omega | (simp only [nx]; first | done | omega)) only [go_sem]; first | done | rfl) | rfl), St.Sub.refl S⟩ ?_
  rintro t g T hT hg ⟨lo, hi, h1, h2, h3, h4, q5, q6, hs⟩
  (have q1 := hg 1 rfl; have q4 := hg 4 rfl; simp (disch := first | decide | omega | (simp only [nx]; first | done | omega)) only [go_sem] at q1 q4; clear hg)
  by_cases hlt : lo < hi
  · have b1 : decide ((lo : Int) < (hi : Int)) = true := by simp; omega
    obtain ⟨m, hm⟩ : ∃ m, m = (lo + hi) / 2 := ⟨_, rfl⟩
    have hml : lo ≤ m ∧ m < hi := by omega
    have w1 : IntKind.i64.wrap ((lo : Int) + (hi : Int)) = ((lo + hi : Nat) : Int) := by rw [IntKind.wrap_i64]; omega
    have w2 : IntKind.u64.wrap (((lo + hi : Nat) : Int)) = ((lo + hi : Nat) : Int) := by rw [IntKind.wrap_u64]; omega
    have w3 : IntKind.i64.wrap (((m : Nat) : Int)) = ((m : Nat) : Int) := by rw [IntKind.wrap_i64]; omega
    have w4 : IntKind.i64.wrap (((m : Nat) : Int) + 1) = ((m + 1 : Nat) : Int) := by rw [IntKind.wrap_i64]; omega
    (simp (disch := first | decide | omega | (simp only [nx]; first | done | omega)) only [go_sem, q1, q5, q6, b1, w1, cvL_iu, w2, bin_shrL, ← hm, cvL_ui, w3]; (repeat with_reducible refine aI ?_))
    refine go_at (hc m (by omega) T hs.next hs.ob) ?_
    by_cases hkm : k ≤ m
    · have b2 : decide (k ≤ m) = true := decide_eq_true hkm
      (simp (disch := first | decide | omega | (simp only [nx]; first | done | omega)) only [go_sem, b2, q5, q6]; (repeat with_reducible refine aI ?_))
      exact ⟨by omega, T.ob, fun _ _ h => h, lo, m, h1, hkm, by omega, by omega, by (first | (simp (disch := first | decide | omega | (simp only [nx]; first | done | omega)) only [go_sem, q5]; first | done | rfl) | rfl), by (first | (simp (disch := first | decide | omega | (simp only [nx]; first | done | omega)) only [go_sem]; first | done | rfl) | rfl), hs⟩
    · have b2 : decide (k ≤ m) = false := decide_eq_false hkm
      (simp (disch := first | decide | omega | (simp only [nx]; first | done | omega)) only [go_sem, b2, q5, q6, w4]; (repeat with_reducible refine aI ?_))
      exact ⟨by omega, T.ob, fun _ _ h => h, m + 1, hi, by omega, h2, h3, by omega, by (first | (simp (disch := first | decide | omega | (simp only [nx]; first | done | omega)) only [go_sem, w4]; first | done | rfl) | rfl), by (first | (simp (disch := first | decide | omega | (simp only [nx]; first | done | omega)) only [go_sem, q6]; first | done | rfl) | rfl), hs⟩
  · have b1 : decide ((lo : Int) < (hi : Int)) = false := by simp; omega
    (simp (disch := first | decide | omega | (simp only [nx]; first | done | omega)) only [go_sem, q5, q6, b1]; (repeat with_reducible refine aI ?_))
    refine ⟨?_, hs⟩
    have : lo = k := by omega
    rw [this]
    rfl
theorem place1_at {T : St} {kl km : Nat} {own : Own} {l : List DMk} {m : DMk} (h1 : T.ob kl = some (.box 22 [.sl own (l.map encM)])) (h2 : T.ob km = some (.box 26 (mkCs m))) {i : Nat} (hi : i < l.length) : DAt Try.prog 28 [.v (.int .i64 ((i : Nat) : Int)), .loc kl 0, .loc km 0] T (.v (.bool (!ltM l[i] m))) := by
  refine dat_of_dwpL mixed Try.func28 rfl (fun _ _ => by kernel_rfl) (rs := [.tmp 4]) rfl (by kernel_rfl) (by trivial) (fun hS => ?_)
  (simp (disch := first | decide | omega | (simp only [nx]; first | done | omega)) only [go_sem]; (repeat with_reducible refine aI ?_))
  refine ddraw_mk 8 (by kernel_rfl) ?_
  (simp (disch := first | decide | omega | (simp only [nx]; first | done | omega)) only [go_sem, h1, h2, hi]; (repeat with_reducible refine aI ?_))
  refine dqgo_mk (less_d l[i] m) ?_
  (simp (disch := first | decide | omega | (simp only [nx]; first | done | omega)) only [go_sem]; (repeat with_reducible refine aI ?_))
  refine ⟨?_, (by (repeat' first | assumption | exact St.Sub.refl _ | exact RowOk.sub (by assumption) (by assumption) | refine St.Sub.trans ?_ (RowOk.sub (by assumption) (by assumption)) | refine St.Sub.add ?_ ?_ _ | refine St.Sub.set ?_ ?_ ?_ _ | refine St.Sub.keep ?_ ?_ | refine St.WF.leave ?_ _ | refine St.WF.add ?_ _ | refine St.WF.set ?_ ?_ _ | refine St.WF.grow ?_ _ _ _ | refine St.WF.keep ?_ ?_ | (first | omega | (simp only [RowOk.lo, nx]; first | done | omega))))⟩
  rfl
theorem ahead_dec {l : List DMk} (hl : Asc l) (m : DMk) {i : Nat} (hi : i < l.length) : (!ltM l[i] m) = decide (ahead l m ≤ i) := by
  rw [Bool.eq_iff_iff]
  simp only [Bool.not_eq_true', decide_eq_true_eq, ltM, decide_eq_false_iff_not]
  constructor
  · intro h
    rcases Nat.lt_or_ge i (ahead l m) with h1 | h1
    · exact absurd (ahead_lt h1 hi) h
    · exact h1
  · intro h hk
    have h0 : ahead l m < l.length := by omega
    have h1 := ahead_ge h0
    rcases Nat.eq_or_lt_of_le h with h2 | h2
    · exact h1 (by simp only [h2]; exact hk)
    · have := (List.pairwise_iff_getElem.1 hl) (ahead l m) i h0 hi h2
      omega
theorem place_d (own : Own) (l : List DMk) (m : DMk) (hl : Asc l) (hn : l.length ≤ 1000000) : DPure Try.prog 21 [.sl own (l.map encM), encM m] (.tup [.v (.int .i64 (ahead l m : Nat)), .v (.bool (decide (l[ahead l m]? = some m)))]) := by
  refine dpure_of_dwp mixed Try.func21 rfl (fun _ _ => by kernel_rfl) (rs := [.tmp 4, .tmp 5]) rfl (by kernel_rfl) (by simp [D.closed, D.all, allL]) (fun S hS => ?_)
  (simp (disch := first | decide | omega | (simp only [nx]; first | done | omega)) only [go_sem]; (repeat with_reducible refine aI ?_))
  have hle := ahead_le l m
  refine go_at (search_at (k := ahead l m) hn hle fun i hi T hT hob => ?_) ?_
  · have := place1_at (T := T) (kl := S.next) (km := S.next + 1) (own := own) (l := l) (m := m) (hob _ _ (by (first | (simp (disch := first | decide | omega | (simp only [nx]; first | done | omega)) only [go_sem]; first | done | rfl) | rfl))) (hob _ _ (by (first | (simp (disch := first | decide | omega | (simp only [nx]; first | done | omega)) only [go_sem]; first | done | rfl) | rfl))) hi
    rw [ahead_dec hl m hi] at this
    exact this
  (simp (disch := first | decide | omega | (simp only [nx]; first | done | omega)) only [go_sem]; (repeat with_reducible refine aI ?_))
  by_cases hlt : ahead l m < l.length
  · have b1 : decide (((ahead l m : Nat) : Int) < (l.length : Int)) = true := by simp; omega
    refine ddraw_mk 15 (by kernel_rfl) ?_
    (simp (disch := first | decide | omega | (simp only [nx]; first | done | omega)) only [go_sem, b1, hlt]; (repeat with_reducible refine aI ?_))
    refine ⟨?_, (by (repeat' first | assumption | exact St.Sub.refl _ | exact RowOk.sub (by assumption) (by assumption) | refine St.Sub.trans ?_ (RowOk.sub (by assumption) (by assumption)) | refine St.Sub.add ?_ ?_ _ | refine St.Sub.set ?_ ?_ ?_ _ | refine St.Sub.keep ?_ ?_ | refine St.WF.leave ?_ _ | refine St.WF.add ?_ _ | refine St.WF.set ?_ ?_ _ | refine St.WF.grow ?_ _ _ _ | refine St.WF.keep ?_ ?_ | (first | omega | (simp only [RowOk.lo, nx]; first | done | omega))))⟩
    simp only [D.frz, frzL, List.getElem?_eq_getElem hlt, Option.some.injEq]
  · have b1 : decide (((ahead l m : Nat) : Int) < (l.length : Int)) = false := by simp; omega
    refine ddraw_mk 15 (by kernel_rfl) ?_
    (simp (disch := first | decide | omega | (simp only [nx]; first | done | omega)) only [go_sem, b1]; (repeat with_reducible refine aI ?_))
    refine ⟨?_, (by (repeat' first | assumption | exact St.Sub.refl _ | exact RowOk.sub (by assumption) (by assumption) | refine St.Sub.trans ?_ (RowOk.sub (by assumption) (by assumption)) | refine St.Sub.add ?_ ?_ _ | refine St.Sub.set ?_ ?_ ?_ _ | refine St.Sub.keep ?_ ?_ | refine St.WF.leave ?_ _ | refine St.WF.add ?_ _ | refine St.WF.set ?_ ?_ _ | refine St.WF.grow ?_ _ _ _ | refine St.WF.keep ?_ ?_ | (first | omega | (simp only [RowOk.lo, nx]; first | done | omega))))⟩
    rw [List.getElem?_eq_none (by omega)]
    rfl
theorem linsert_w {S : St} (own : Own) (l : List DMk) (m : DMk) (hl : Asc l) (hn : l.length ≤ 1000000) :
    DCalls Try.prog 20 [.sl own (l.map encM), encM m] S fun d T => ∃ k c zs, d = .tup [.win k 0 (insM l m).length c, .v (.int .i64 (ahead l m : Nat)), .v (.bool (freshM l m))] ∧ S.next ≤ k ∧ OwnM T k c zs (insM l m) ∧ S.Sub T := by
  refine dcalls_inline mixed Try.func20 rfl (fun _ _ => by kernel_rfl) (rs := [.tmp 4, .tmp 5, .tmp 6]) rfl (by kernel_rfl) (fun hS => ?_)
  (simp (disch := first | decide | omega | (simp only [nx]; first | done | omega)) only [go_sem]; (repeat with_reducible refine aI ?_))
  refine DCalls.of_pure (place_d own l m hl hn) ?_
  (simp (disch := first | decide | omega | (simp only [nx]; first | done | omega)) only [go_sem]; (repeat with_reducible refine aI ?_))
  refine dapp_nil elMk (dappend_fresh elMk (by rw [elMk]; rfl) zeMk zoMk (es2 := l.map encM) (srcOk_sl (by rw [szMk]; exact wMk l)) rfl (by rw [List.length_map]; omega) (by rw [byMk, List.length_map]; omega) fun c zs h1 h2 => ?_)
  rw [szMk] at h2
  rw [List.length_map] at h1
  have hle := ahead_le l m
  by_cases he : l[ahead l m]? = some m
  · have b1 : decide (l[ahead l m]? = some m) = true := decide_eq_true he
    (simp (disch := first | decide | omega | (simp only [nx]; first | done | omega)) only [go_sem, b1]; (repeat with_reducible refine aI ?_))
    have hi : insM l m = l := by unfold insM; rw [if_pos he]
    have hf : freshM l m = false := by unfold freshM; rw [b1]; rfl
    rw [hi, hf]
    refine ⟨_, c, zs, by first | rfl | (rw [List.length_map]; rfl), by show S.next ≤ S.next + 1; omega, ⟨by (first | (simp (disch := first | decide | omega | (simp only [nx]; first | done | omega)) only [go_sem]; first | done | rfl) | rfl), h2, by simp (disch := first | decide | omega | (simp only [nx]; first | done | omega)) only [go_sem]; omega⟩, (by (repeat' first | assumption | exact St.Sub.refl _ | exact RowOk.sub (by assumption) (by assumption) | refine St.Sub.trans ?_ (RowOk.sub (by assumption) (by assumption)) | refine St.Sub.add ?_ ?_ _ | refine St.Sub.set ?_ ?_ ?_ _ | refine St.Sub.keep ?_ ?_ | refine St.WF.leave ?_ _ | refine St.WF.add ?_ _ | refine St.WF.set ?_ ?_ _ | refine St.WF.grow ?_ _ _ _ | refine St.WF.keep ?_ ?_ | (first | omega | (simp only [RowOk.lo, nx]; first | done | omega))))⟩
  · have b1 : decide (l[ahead l m]? = some m) = false := decide_eq_false he
    have hi : insM l m = l.take (ahead l m) ++ m :: l.drop (ahead l m) := by unfold insM; rw [if_neg he]
    have hf : freshM l m = true := by unfold freshM; rw [b1]; rfl
    (simp (disch := first | decide | omega | (simp only [nx]; first | done | omega)) only [go_sem, b1]; (repeat with_reducible refine aI ?_))
    refine ins_mk (c := c) (zs := zs) (es := l.map encM) (x := encM m) (i := ahead l m) (by (first | (simp (disch := first | decide | omega | (simp only [nx]; first | done | omega)) only [go_sem]; first | done | rfl) | rfl)) h2 (wMk l) (width_encM m) (by rw [List.length_map]; exact hle) (by rw [List.length_map]; omega) (by simp (disch := first | decide | omega | (simp only [nx]; first | done | omega)) only [go_sem]; omega) (by rw [List.length_map]) fun c' zs' h3 h4 => ?_
    (simp (disch := first | decide | omega | (simp only [nx]; first | done | omega)) only [go_sem]; (repeat with_reducible refine aI ?_))
    have e : (l.map encM).take (ahead l m) ++ [encM m] ++ (l.map encM).drop (ahead l m) = (insM l m).map encM := by rw [hi]; simp
    rw [e] at h4 ⊢
    have hlen : (insM l m).length = l.length + 1 := by rw [hi]; simp; omega
    rw [hf, hlen]
    have sb : S.Sub ((S.add (.box 26 (mkCs m))).add (ownOb 26 (l.map encM) zs c)) := (by (repeat' first | assumption | exact St.Sub.refl _ | exact RowOk.sub (by assumption) (by assumption) | refine St.Sub.trans ?_ (RowOk.sub (by assumption) (by assumption)) | refine St.Sub.add ?_ ?_ _ | refine St.Sub.set ?_ ?_ ?_ _ | refine St.Sub.keep ?_ ?_ | refine St.WF.leave ?_ _ | refine St.WF.add ?_ _ | refine St.WF.set ?_ ?_ _ | refine St.WF.grow ?_ _ _ _ | refine St.WF.keep ?_ ?_ | (first | omega | (simp only [RowOk.lo, nx]; first | done | omega))))
    refine ⟨_, c', zs', by first | rfl | (rw [List.length_map]; rfl), ?_, ⟨by (first | (simp (disch := first | decide | omega | (simp only [nx]; first | done | omega)) only [go_sem]; first | done | rfl) | rfl), h4, by simp (disch := first | decide | omega | (simp only [nx]; first | done | omega)) only [go_sem]; omega⟩, (St.Sub.drop sb hS (by omega)).add hS _⟩
    show S.next ≤ S.next + 1 + 1
    omega
end
end Go.Proofs.Ytgadflonnnkjcaa

namespace Go.Proofs.Ytgadflonnnkjcaa
open Go.RowKit
theorem dpure_own3 {g : FuncId} {args : List D} {l : List DMk} {x y : Value} (h : ∀ S : St, S.WF → DCalls Try.prog g args S fun d T => ∃ k c zs, d = .tup [.win k 0 l.length c, .v x, .v y] ∧ S.next ≤ k ∧ OwnM T k c zs l ∧ S.Sub T) : DPure Try.prog g args (.tup [.sl .no (l.map encM), .v x, .v y]) := fun S base η w vs hM hr =>
  calls_fin ((h S hM.fresh).mono fun d T ⟨k, c, zs, e, hk, ho, hs⟩ => ⟨T.drop k, .tup [.sl .no (l.map encM), .v x, .v y], by
    subst e
    refine thawM ho ?_
    simp only [D.thaw, thawL, List.length_map, Nat.beq_refl, Bool.and_self, cond_true], fin_same hM.fresh (closed_ins l x y) ⟨hs.next, fun j o hj => by
    have := St.WF.lt (S := S) hM.fresh hj
    simp only [St.drop]
    rw [if_neg (by omega)]
    exact hs.ob j o hj⟩⟩) base η w vs hM hr
theorem linsert_d (own : Own) (l : List DMk) (m : DMk) (hl : Asc l) (hn : l.length ≤ 1000000) : DPure Try.prog 20 [.sl own (l.map encM), encM m] (.tup [.sl .no ((insM l m).map encM), .v (.int .i64 (ahead l m : Nat)), .v (.bool (freshM l m))]) := dpure_own3 fun _ _ => linsert_w own l m hl hn
theorem lineM_le {l : List DMk} {n : Nat} (h : l.length ≤ n) : (lineM l).length ≤ n := Nat.le_trans (lineM_len l) h
section
set_option maxRecDepth 200000
set_option maxHeartbeats 4000000
theorem lineInserts_d (l : List DMk) (m : DMk) : DPure Try.prog 5 [.sl .no (l.map encM), encM m] (.v (.bool true)) := by
  refine dpure_of_dwp mixed Try.func5 rfl (fun _ _ => by kernel_rfl) (rs := [.tmp 4]) rfl (by kernel_rfl) trivial (fun S hS => ?_)
  by_cases h : l.length > 80
  · have b1 : decide ((l.length : Int) > 80) = true := by simp; omega
    (simp (disch := first | decide | omega | (simp only [nx]; first | done | omega)) only [go_sem, b1]; (repeat with_reducible refine aI ?_))
    refine DCalls.of_pure awake_d ?_
    (simp (disch := first | decide | omega | (simp only [nx]; first | done | omega)) only [go_sem]; (repeat with_reducible refine aI ?_))
    refine ⟨?_, (by (repeat' first | assumption | exact St.Sub.refl _ | exact RowOk.sub (by assumption) (by assumption) | refine St.Sub.trans ?_ (RowOk.sub (by assumption) (by assumption)) | refine St.Sub.add ?_ ?_ _ | refine St.Sub.set ?_ ?_ ?_ _ | refine St.Sub.keep ?_ ?_ | refine St.WF.leave ?_ _ | refine St.WF.add ?_ _ | refine St.WF.set ?_ ?_ _ | refine St.WF.grow ?_ _ _ _ | refine St.WF.keep ?_ ?_ | (first | omega | (simp only [RowOk.lo, nx]; first | done | omega))))⟩
    rfl
  · have b1 : decide ((l.length : Int) > 80) = false := by simp; omega
    have hl : l.length ≤ 1000000 := by omega
    have hl2 := lineM_le hl
    have ha := asc_lineM l
    (simp (disch := first | decide | omega | (simp only [nx]; first | done | omega)) only [go_sem, b1]; (repeat with_reducible refine aI ?_))
    refine DCalls.of_pure (refSort_d .no l hl) ?_
    (simp (disch := first | decide | omega | (simp only [nx]; first | done | omega)) only [go_sem]; (repeat with_reducible refine aI ?_))
    refine DCalls.of_pure (refInsert_d .no (lineM l) m hl2) ?_
    (simp (disch := first | decide | omega | (simp only [nx]; first | done | omega)) only [go_sem]; (repeat with_reducible refine aI ?_))
    refine DCalls.of_pure (linsert_d .no (lineM l) m ha hl2) ?_
    (simp (disch := first | decide | omega | (simp only [nx]; first | done | omega)) only [go_sem]; (repeat with_reducible refine aI ?_))
    refine DCalls.of_pure (place_d .no (lineM l) m ha hl2) ?_
    (simp (disch := first | decide | omega | (simp only [nx]; first | done | omega)) only [go_sem]; (repeat with_reducible refine aI ?_))
    refine DCalls.of_pure (same_d .no .no (insM (lineM l) m) (insM (lineM l) m) (by have := insM_len (lineM l) m; have := lineM_len l; omega)) ?_
    have e0 : decide (insM (lineM l) m = insM (lineM l) m) = true := decide_eq_true rfl
    have e1 : (((ahead (lineM l) m : Nat) : Int) == ((ahead (lineM l) m : Nat) : Int)) = true := by simp
    have e2 : (freshM (lineM l) m == freshM (lineM l) m) = true := by simp
    have e3 : (decide ((lineM l)[ahead (lineM l) m]? = some m) == !freshM (lineM l) m) = true := by simp [freshM]
    (simp (disch := first | decide | omega | (simp only [nx]; first | done | omega)) only [go_sem, e0, e1, e2, e3, bin_beqL]; (repeat with_reducible refine aI ?_))
    refine DCalls.of_pure awake_d ?_
    (simp (disch := first | decide | omega | (simp only [nx]; first | done | omega)) only [go_sem]; (repeat with_reducible refine aI ?_))
    refine ⟨?_, (by (repeat' first | assumption | exact St.Sub.refl _ | exact RowOk.sub (by assumption) (by assumption) | refine St.Sub.trans ?_ (RowOk.sub (by assumption) (by assumption)) | refine St.Sub.add ?_ ?_ _ | refine St.Sub.set ?_ ?_ ?_ _ | refine St.Sub.keep ?_ ?_ | refine St.WF.leave ?_ _ | refine St.WF.add ?_ _ | refine St.WF.set ?_ ?_ _ | refine St.WF.grow ?_ _ _ _ | refine St.WF.keep ?_ ?_ | (first | omega | (simp only [RowOk.lo, nx]; first | done | omega))))⟩
    rfl
end
end Go.Proofs.Ytgadflonnnkjcaa

namespace Go.Proofs.Ytgadflonnnkjcaa
open Go.ChangeShapes Go.WideShapes Go.ChangeAt Go.RowKit
theorem lineInserts_own : ownKnob Try.prog.godebug = none := by kernel_rfl
theorem lineInserts_laidOut : laidOutB Try.prog = true := by kernel_rfl
set_option maxRecDepth 100000 in
theorem lineInserts_lifted (os : Os) (started : os.Started) (H : Type) (enc : TypeId × Value → H) :
    ReturnsInHanded {} Try.checked os 5 .any (Rows.lineInsertsSpec.pre6 enc Try.prog Try.f5 Rows.lineInsertsRow.domain false) (Rows.lineInsertsSpec.post enc Try.prog Try.f5 false true false false) := by
  refine returnsInHanded_of_change_sized (C := Try.checked) lineInserts_own started (by kernel_rfl) Try.func5
    (ChangeSpec.witness6 (enc := enc) (C := Try.checked) false ⟨#[], #[.slice none 0 0, .agg (mkVs (0, z32)).toArray], []⟩ 8 (by kernel_rfl) (by kernel_rfl) (by kernel_rfl) (by kernel_rfl)) ?_
  intro W base args ds gs before hval0 hW hcnd hsz0 _
  have hval : ∀ (j : Nat) t v, Try.f5.params[j]? = some t → args[j]? = some v → Value.okWide Try.prog W .any base t v := hval0
  have hsz : (DataW.weightsEach Try.prog (Try.f5.params.toList ++ Rows.lineInsertsSpec.plain.varTypes Try.prog) (ds ++ gs)).all (· ≤ reachBytes) = true := hsz0
  have hW' := hW
  obtain ⟨p, q, hA0, hV, rfl, hfz, hnd⟩ := hW
  have hA : DataW.TrodAll enc Try.prog W 0 (fun _ => true) true Try.f5.params.toList args.toList ds p := hA0
  obtain ⟨rfl, rfl⟩ := trodVars_none hV
  rw [Try.params5] at hA hval hsz
  have hA1 := hA
  obtain ⟨v0, vs0, d0, ds0, p0, q0, hargs, rfl, rfl, h0, r0⟩ := trodAll_cons hA
  obtain ⟨v1, vs1, d1, ds1, p1, q1, rfl, rfl, rfl, h1, r1⟩ := trodAll_cons r0
  obtain ⟨rfl, rfl, rfl⟩ := trodAll_nil r1
  obtain rfl : args = #[v0, v1] := by cases args; simp_all
  have z0 : Sized Try.prog 22 d0 := sized_of_each (j := 0) hsz rfl rfl
  have k0 : Value.okWide Try.prog W .any base 22 v0 := hval 0 _ _ rfl rfl
  have z1 : Sized Try.prog 26 d1 := sized_of_each (j := 1) hsz rfl rfl
  have k1 : Value.okWide Try.prog W .any base 26 v1 := hval 1 _ _ rfl rfl
  clear hA0 hval0 hsz hsz0 hval
  have key : Calls Try.prog 5 #[v0, v1] W (Gives (.bool true) W) := by
    obtain ⟨l, _, hl⟩ := open_marks h0 z0 k0
    obtain ⟨a, ha⟩ := open_mark h1 k1
    exact gives_of_dpure (vs := [v0, v1]) (lineInserts_d l a) (by simp only [RepL]; exact ⟨_, _, rfl, hl _ _ fix_nil, _, _, rfl, ha _ _, rfl⟩)
  refine key.mono fun e W' ⟨he, bel⟩ => ?_
  subst he
  exact ⟨_, rfl, _, _, _, [], _, [], hW', trodAll_mk1 (shut_bool Try.underlying4 _), trodAll_below lineInserts_laidOut bel (by kernel_rfl) hA1, rfl, bel.frame _, fun h => by cases h⟩

theorem lineInserts_holds : Rows.LineInsertsSaid :=
  OpenClaim.holds_of_wide 5 Try.f5 rfl rfl rfl rfl rfl rfl rfl ⟨rfl, rfl, rfl, rfl, rfl⟩ rfl rfl rfl rfl rfl (by kernel_rfl) Try.func5 (by kernel_rfl)
    (of_decide_eq_true (by kernel_rfl)) (by unfold Func.isWrapper; first | (rw [if_pos (by decide +kernel)]; kernel_rfl) | (rw [if_neg (by decide +kernel)]; exact ⟨rfl, rfl⟩))
    (fun os started H enc _ => lineInserts_lifted os started H enc)
#print axioms lineInserts_holds
end Go.Proofs.Ytgadflonnnkjcaa
