/- LineOwn answers true for any marks and any mark, and leaves its arguments as they were. Conditions: none but the statement's own. -/
import Derived.Test.YtgadflonnnkjcaaW4
import Derived.Test.YtgadflonnnkjcaaRows
set_option linter.unusedVariables false
set_option linter.unusedSimpArgs false
namespace Go.Proofs.Ytgadflonnnkjcaa
open Go.RowKit
set_option maxHeartbeats 4000000 in
set_option maxRecDepth 20000 in
theorem ins_mk {S : St} {k c i n : Nat} {es zs : List D} {x : D} {o : Own} {K : D → St → Prop} (hk : S.ob k = some (ownOb 26 es zs c)) (hl : (flat es ++ zs).length = c * 33) (hw : ∀ d ∈ es, d.width = 33) (hx : x.width = 33) (hi : i ≤ es.length) (hn : es.length ≤ 1073741824) (hkn : k < S.next) (hnn : n = es.length)
    (h : ∀ (c' : Nat) (zs' : List D), es.length + 1 ≤ c' → (flat (es.take i ++ [x] ++ es.drop i) ++ zs').length = c' * 33 → K (.win S.next 0 (n + 1) c') ((S.drop k).add (ownOb 26 (es.take i ++ [x] ++ es.drop i) zs' c'))) :
    DCalls Try.prog 26 [.win k 0 n c, .v (.int .i64 i), .sl o [x]] S K := by
  subst hnn
  have hc := ownOb_len hw (by omega) hl
  have heT : elT Try.prog 22 = some 26 := by kernel_rfl
  have heS : (elT Try.prog 22).isSome = true := by rw [heT]; rfl
  have hsz : szOf Try.prog 26 = 33 := by kernel_rfl
  have hby : bytesOf Try.prog 26 = 40 := by kernel_rfl
  have hzT : zeroT Try.prog 26 = true := by kernel_rfl
  have hzO : zeroOk Try.prog 26 = true := by kernel_rfl
  have hiS := (zeroT_pos hzT).2
  refine DCalls.thaw ?_
  refine dcalls_inline mixed Try.func26 rfl (fun _ _ => by kernel_rfl) (rs := [.tmp 6]) rfl (by kernel_rfl) (fun hS => ?_)
  have hwr : IntKind.i64.wrap ((es.length : Int) + ((1 : Nat) : Int)) = ((es.length + 1 : Nat) : Int) := by rw [IntKind.wrap_i64]; omega
  have h10 : (((1 : Nat) : Int) == 0) = false := by decide
  by_cases hin : i = es.length
  · subst hin
    have b1 : ((es.length : Int) == (es.length : Int)) = true := by simp
    (simp (disch := first | decide | omega | (simp only [nx]; first | done | omega)) only [go_sem, hwr, h10, b1]; (repeat with_reducible refine aI ?_))
    refine dappend_own heT heS hzT hzO hk (by rw [hsz]; exact hl) (by rw [hsz]; exact hw) (es2 := [x]) (srcOk_one (by rw [hsz]; exact hx)) rfl (by simp; omega) (by rw [hby]; simp; omega) hkn fun c' zs' h1 h2 => ?_
    (simp (disch := first | decide | omega | (simp only [nx]; first | done | omega)) only [go_sem]; (repeat with_reducible refine aI ?_))
    refine ⟨_, _, Thaw.refl _ _ _, ?_⟩
    have := h c' zs' h1
    rw [List.take_of_length_le (Nat.le_refl _), List.drop_of_length_le (Nat.le_refl _), List.append_nil] at this
    exact this (by rw [hsz] at h2; exact h2)
  · have b1 : ((i : Int) == (es.length : Int)) = false := by simp; omega
    have hcap : 0 < c := by omega
    have hk0 := hk
    rw [ownOb_box hcap] at hk
    by_cases hgr : c < es.length + 1
    · have b2 : decide ((c : Int) < ((es.length + 1 : Nat) : Int)) = true := by simp; omega
      have hwr2 : IntKind.i64.wrap (((es.length + 1 : Nat) : Int) - (i : Int)) = ((es.length + 1 - i : Nat) : Int) := by rw [IntKind.wrap_i64]; omega
      have hwr3 : IntKind.i64.wrap ((i : Int) + ((1 : Nat) : Int)) = ((i + 1 : Nat) : Int) := by rw [IntKind.wrap_i64]; omega
      (simp (disch := first | decide | omega | (simp only [nx]; first | done | omega)) only [go_sem, hwr, h10, b1, b2, hwr2]; (repeat with_reducible refine aI ?_))
      have hso := srcOk_own0 (c' := c) hk0 hc hw hi
      refine dappend_zeros heT (kk := .i64) (by kernel_rfl) hzT hzO hso (by omega) (by omega) (by omega) (by rw [hby]; omega) fun c' zs' h1 h2 => ?_
      have hfx : (flat [x]).length = 33 := by simpa [flat, D.width] using hx
      have hfB : (flat (es.take i)).length = i * 33 := by rw [dflat_length fun d hd => hw d (List.mem_of_mem_take hd), List.length_take]; congr 1; omega
      have hfC : (flat (es.drop i)).length = (es.length - i) * 33 := by rw [dflat_length fun d hd => hw d (List.mem_of_mem_drop hd), List.length_drop]
      rw [hsz] at h2
      (simp (disch := first | decide | omega | (simp only [nx]; first | done | omega)) only [go_sem, winOff_lt]; (repeat with_reducible refine aI ?_))
      have hmin : Nat.min 1 (i + (es.length + 1 - i) - i) = 1 := by show min _ _ = _; omega
      have hzl : 33 ≤ zs'.length := by rw [List.length_append, hfB] at h2; omega
      refine dcopy_win heT hiS (m := 1) (cs := flat (es.take i) ++ zs') (bt := 26) (news := flat [x]) (by (first | (simp (disch := first | decide | omega | (simp only [nx]; first | done | omega)) only [go_sem]; first | done | rfl) | rfl)) (srcOk_one (by rw [hsz]; exact hx)) (by rw [hsz, h2, hmin]; omega) (cs' := flat (es.take i) ++ flat [x] ++ zs'.drop 33) (by rw [hsz, hmin, List.take_of_length_le (l := flat [x]) (by omega), splice_at (by rw [hfB]), hfx]) ?_
      (simp (disch := first | decide | omega | (simp only [nx]; first | done | omega)) only [go_sem, winOff_lt, hwr3]; (repeat with_reducible refine aI ?_))
      refine ddraw_mk 8 (by kernel_rfl) ?_
      (simp (disch := first | decide | omega | (simp only [nx]; first | done | omega)) only [go_sem, winOff_lt, hwr3]; (repeat with_reducible refine aI ?_))
      have hmin2 : Nat.min (es.length - i) (i + (es.length + 1 - i) - (i + 1)) = es.length - i := by show min _ _ = _; omega
      have hso2 := srcOk_own (S := (S.add (.box 26 (flat (es.take i) ++ zs'))).set S.next (.box 26 (flat (es.take i) ++ flat [x] ++ zs'.drop 33))) (l := i) (n := es.length - i) (c' := c - i) (k := k) (c := c) (e := 26) (es := es) (zs := zs) (z := 33) (by (first | (simp (disch := first | decide | omega | (simp only [nx]; first | done | omega)) only [go_sem, hk0]; first | done | rfl) | rfl)) hc hw (by omega)
      rw [List.take_of_length_le (l := es.drop i) (by rw [List.length_drop]; omega)] at hso2
      refine dcopy_win heT hiS (m := es.length - i) (cs := flat (es.take i) ++ flat [x] ++ zs'.drop 33) (bt := 26) (news := flat (es.drop i)) (by (first | (simp (disch := first | decide | omega | (simp only [nx]; first | done | omega)) only [go_sem]; first | done | rfl) | rfl)) (by rw [hsz]; exact hso2) (by rw [hsz, hmin2]; simp only [List.length_append, hfB, hfx, List.length_drop]; rw [List.length_append, hfB] at h2; omega) (cs' := flat (es.take i ++ [x] ++ es.drop i) ++ (zs'.drop 33).drop ((es.length - i) * 33)) (by rw [hsz, hmin2, List.take_of_length_le (l := flat (es.drop i)) (by omega), splice_at (by rw [List.length_append, hfB, hfx]; omega), hfC, flat_append, flat_append]) ?_
      (simp (disch := first | decide | omega | (simp only [nx]; first | done | omega)) only [go_sem]; (repeat with_reducible refine aI ?_))
      refine ⟨_, _, thaw_drop k _, ?_⟩
      rw [St.add_set, St.add_set, St.add_drop _ _ hkn]
      have e1 : i + (es.length + 1 - i) = es.length + 1 := by omega
      rw [e1] at h1 ⊢
      have := h c' (List.drop ((es.length - i) * 33) (List.drop 33 zs')) h1 (by
        simp only [List.length_append, flat_append, hfB, hfC, hfx, List.length_drop]
        rw [List.length_append, hfB] at h2
        omega)
      rw [ownOb_box (by omega)] at this
      exact this
    · have b2 : decide ((c : Int) < ((es.length + 1 : Nat) : Int)) = false := by simp; omega
      have hwr3 : IntKind.i64.wrap ((i : Int) + ((1 : Nat) : Int)) = ((i + 1 : Nat) : Int) := by rw [IntKind.wrap_i64]; omega
      (simp (disch := first | decide | omega | (simp only [nx]; first | done | omega)) only [go_sem, hwr, hwr3, h10, b1, b2, winOff_lt]; (repeat with_reducible refine aI ?_))
      refine doverlaps (tr := 4) Try.func34 (by kernel_rfl) (by kernel_rfl) (by kernel_rfl) (by kernel_rfl) heT hiS hk (fun e => by rw [e] at hl; simp at hl; omega) ?_
      (simp (disch := first | decide | omega | (simp only [nx]; first | done | omega)) only [go_sem, winOff_lt]; (repeat with_reducible refine aI ?_))
      refine ddraw_mk 8 (by kernel_rfl) ?_
      (simp (disch := first | decide | omega | (simp only [nx]; first | done | omega)) only [go_sem, winOff_lt, hwr3]; (repeat with_reducible refine aI ?_))
      have hfx : (flat [x]).length = 33 := by simpa [flat, D.width] using hx
      have hfB : (flat (es.take i)).length = i * 33 := by rw [dflat_length fun d hd => hw d (List.mem_of_mem_take hd), List.length_take]; congr 1; omega
      have hfC : (flat (es.drop i)).length = (es.length - i) * 33 := by rw [dflat_length fun d hd => hw d (List.mem_of_mem_drop hd), List.length_drop]
      have hff : flat es = flat (es.take i) ++ flat (es.drop i) := by rw [← flat_append, List.take_append_drop]
      have hzl : 33 ≤ zs.length := by rw [List.length_append, hff, List.length_append, hfB, hfC] at hl; omega
      have hmin : Nat.min (es.length + 1 - i) (es.length + 1 - (i + 1)) = es.length - i := by show min _ _ = _; omega
      obtain ⟨cs1, hcs1⟩ : ∃ cs1, splice (flat es ++ zs) ((i + 1) * 33) (flat (es.drop i)) = cs1 := ⟨_, rfl⟩
      have hcl : cs1.length = c * 33 := by rw [← hcs1, splice_len, hl]; rw [hl, hfC]; omega
      refine dcopy_win heT hiS (m := es.length + 1 - i) hk (srcOk_win hk (by rw [hsz, hl]; omega)) (by rw [hsz, hmin, hl]; omega) (cs' := cs1) (by
        rw [hsz, hmin, ← hcs1, List.take_take, Nat.min_eq_left (by omega), List.drop_append_of_le_length (by rw [hff, List.length_append, hfB]; omega), flat_drop hw, List.take_append_of_le_length (by omega), List.take_of_length_le (by omega)]) ?_
      (simp (disch := first | decide | omega | (simp only [nx]; first | done | omega)) only [go_sem, winOff_lt, hwr3]; (repeat with_reducible refine aI ?_))
      have hmin2 : Nat.min 1 (es.length + 1 - i) = 1 := by show min _ _ = _; omega
      refine dcopy_win heT hiS (m := 1) (cs := cs1) (bt := 26) (news := flat [x]) (by (first | (simp (disch := first | decide | omega | (simp only [nx]; first | done | omega)) only [go_sem]; first | done | rfl) | rfl)) (srcOk_one (by rw [hsz]; exact hx)) (by rw [hsz, hmin2, hcl]; omega) (cs' := flat (es.take i ++ [x] ++ es.drop i) ++ zs.drop 33) (by rw [hsz, hmin2, List.take_of_length_le (l := flat [x]) (by omega), ← hcs1, hff, ins_old (by rw [hfB]) (by rw [hfB, hfx]; omega) (by omega), hfx, flat_append, flat_append]) ?_
      (simp (disch := first | decide | omega | (simp only [nx]; first | done | omega)) only [go_sem]; (repeat with_reducible refine aI ?_))
      rw [St.set_set]
      refine ⟨_, _, thaw_rename (o := .box 26 (flat (es.take i ++ [x] ++ es.drop i) ++ zs.drop 33)) (by simp [St.set]), ?_⟩
      rw [St.set_drop]
      have := h c (zs.drop 33) (by omega) (by
        simp only [List.length_append, flat_append, hfB, hfC, hfx, List.length_drop]
        rw [List.length_append, hff, List.length_append, hfB, hfC] at hl
        omega)
      rw [ownOb_box (by omega)] at this
      exact this

theorem go_at {P : Program} {g : FuncId} {args : List D} {S : St} {d : D} {K : D → St → Prop} (h : DAt P g args S d) (k : K d S) : DCalls P g args S K := h.mono fun _ _ hq => by rw [hq.1, hq.2]; exact k
theorem bin_shrL {P : Program} {t : TypeId} {x y : Operand} (a : Nat) : dbin P .shr t x y (.v (.int .u64 a)) (.v (.int .u64 1)) = some (True, .v (.int .u64 ((a / 2 : Nat) : Int))) := by
  simp [dbin, eqGuard, binOp, shift_shr .u64 .u64 (a : Int) 1 (by omega) (by decide), pureRun_bind, pureRun_pure]
theorem cvL_iu (n : Int) : pureRun Try.prog (convert 3 53 (.int .i64 n)) = some (.int .u64 (IntKind.u64.wrap n)) := by kernel_rfl
theorem cvL_ui (n : Int) : pureRun Try.prog (convert 53 3 (.int .u64 n)) = some (.int .i64 (IntKind.i64.wrap n)) := by kernel_rfl
section
set_option maxRecDepth 200000
set_option maxHeartbeats 4000000
theorem search_at {S : St} {n k : Nat} {g : FuncId} {cs : List D} (hn : n ≤ 1000000) (hk : k ≤ n) (hc : ∀ i, i < n → DSt Try.prog g (.v (.int .i64 ((i : Nat) : Int)) :: cs) S (.v (.bool (decide (k ≤ i))))) :
    DAt Try.prog 27 [.v (.int .i64 ((n : Nat) : Int)), .fn (.func g) [] cs] S (.v (.int .i64 ((k : Nat) : Int))) := by
  refine dat_of_dwpL mixed Try.func27 rfl (fun _ _ => by kernel_rfl) (rs := [.tmp 4]) rfl (by kernel_rfl) (by trivial) (fun hS => ?_)
  (simp (disch := first | decide | omega | (simp only [nx]; first | done | omega)) only [go_sem]; (repeat with_reducible refine aI ?_))
  refine dloop_up (fun t => List.contains [5, 6, 7, 9, 10, 11, 12, 13, 14, 15, 16, 17, 18, 19, 20, 21, 22, 23, 24] t) (by kernel_rfl) (by exact (by (repeat' first | assumption | refine St.WF.leave ?_ _ | refine St.WF.add ?_ _ | refine St.WF.set ?_ ?_ _ | refine St.WF.grow ?_ _ _ _ | refine St.WF.keep ?_ ?_ | (first | omega | (simp only [RowOk.lo, nx]; first | done | omega))))) n (fun t g T => ∃ lo hi : Nat, lo ≤ k ∧ k ≤ hi ∧ hi ≤ n ∧ hi + t ≤ n + lo ∧ g 5 = .v (.int .i64 ((lo : Nat) : Int)) ∧ g 6 = .v (.int .i64 ((hi : Nat) : Int)) ∧ S.Sub T) ⟨0, n, by omega, hk, by omega, by omega, by (first | (simp (disch := first | decide | omega | (simp only [nx]; first | done | omega)) only [go_sem]; first | done | rfl) | rfl), by (first | (simp (disch := first | decide | omega | (simp only [nx]; first | done | omega)) only [go_sem]; first | done | rfl) | rfl), St.Sub.refl S⟩ ?_
  rintro t g T hT hg ⟨lo, hi, h1, h2, h3, h4, q5, q6, hs⟩
  (have q1 := hg 1 rfl; have q4 := hg 4 rfl; simp (disch := first | decide | omega | (simp only [nx]; first | done | omega)) only [go_sem] at q1 q4; clear hg)
  by_cases hlt : lo < hi
  · have b1 : decide ((lo : Int) < (hi : Int)) = true := by simp; omega
    obtain ⟨m, hm⟩ : ∃ m, m = (lo + hi) / 2 := ⟨_, rfl⟩
    have hml : lo ≤ m ∧ m < hi := by omega
    have w1 : IntKind.i64.wrap ((lo : Int) + (hi : Int)) = ((lo + hi : Nat) : Int) := by rw [IntKind.wrap_i64]; omega
    have w2 : IntKind.u64.wrap (((lo + hi : Nat) : Int)) = ((lo + hi : Nat) : Int) := by rw [IntKind.wrap_u64]; omega
    have w3 : IntKind.i64.wrap (((m : Nat) : Int)) = ((m : Nat) : Int) := by rw [IntKind.wrap_i64]; omega
    have w4 : IntKind.i64.wrap (((m : Nat) : Int) + 1) = ((m + 1 : Nat) : Int) := by rw [IntKind.wrap_i64]; omega
    (simp (disch := first | decide | omega | (simp only [nx]; first | done | omega)) only [go_sem, q1, q5, q6, b1, w1, cvL_iu, w2, bin_shrL, ← hm, cvL_ui, w3]; (repeat with_reducible refine aI ?_))
    refine go_at (hc m (by omega) T hs.next hs.ob) ?_
    by_cases hkm : k ≤ m
    · have b2 : decide (k ≤ m) = true := decide_eq_true hkm
      (simp (disch := first | decide | omega | (simp only [nx]; first | done | omega)) only [go_sem, b2, q5, q6]; (repeat with_reducible refine aI ?_))
      exact ⟨by omega, T.ob, fun _ _ h => h, lo, m, h1, hkm, by omega, by omega, by (first | (simp (disch := first | decide | omega | (simp only [nx]; first | done | omega)) only [go_sem, q5]; first | done | rfl) | rfl), by (first | (simp (disch := first | decide | omega | (simp only [nx]; first | done | omega)) only [go_sem]; first | done | rfl) | rfl), hs⟩
    · have b2 : decide (k ≤ m) = false := decide_eq_false hkm
      (simp (disch := first | decide | omega | (simp only [nx]; first | done | omega)) only [go_sem, b2, q5, q6, w4]; (repeat with_reducible refine aI ?_))
      exact ⟨by omega, T.ob, fun _ _ h => h, m + 1, hi, by omega, h2, h3, by omega, by (first | (simp (disch := first | decide | omega | (simp only [nx]; first | done | omega)) only [go_sem, w4]; first | done | rfl) | rfl), by (first | (simp (disch := first | decide | omega | (simp only [nx]; first | done | omega)) only [go_sem, q6]; first | done | rfl) | rfl), hs⟩
  · have b1 : decide ((lo : Int) < (hi : Int)) = false := by simp; omega
    (simp (disch := first | decide | omega | (simp only [nx]; first | done | omega)) only [go_sem, q5, q6, b1]; (repeat with_reducible refine aI ?_))
    refine ⟨?_, hs⟩
    have : lo = k := by omega
    rw [this]
    rfl
theorem place1_at {T : St} {kl km : Nat} {own : Own} {l : List DMk} {m : DMk} (h1 : T.ob kl = some (.box 22 [.sl own (l.map encM)])) (h2 : T.ob km = some (.box 26 (mkCs m))) {i : Nat} (hi : i < l.length) : DAt Try.prog 28 [.v (.int .i64 ((i : Nat) : Int)), .loc kl 0, .loc km 0] T (.v (.bool (!ltM l[i] m))) := by
  refine dat_of_dwpL mixed Try.func28 rfl (fun _ _ => by kernel_rfl) (rs := [.tmp 4]) rfl (by kernel_rfl) (by trivial) (fun hS => ?_)
  (simp (disch := first | decide | omega | (simp only [nx]; first | done | omega)) only [go_sem]; (repeat with_reducible refine aI ?_))
  refine ddraw_mk 8 (by kernel_rfl) ?_
  (simp (disch := first | decide | omega | (simp only [nx]; first | done | omega)) only [go_sem, h1, h2, hi]; (repeat with_reducible refine aI ?_))
  refine dqgo_mk (less_d l[i] m) ?_
  (simp (disch := first | decide | omega | (simp only [nx]; first | done | omega)) only [go_sem]; (repeat with_reducible refine aI ?_))
  refine ⟨?_, (by (repeat' first | assumption | exact St.Sub.refl _ | exact RowOk.sub (by assumption) (by assumption) | refine St.Sub.trans ?_ (RowOk.sub (by assumption) (by assumption)) | refine St.Sub.add ?_ ?_ _ | refine St.Sub.set ?_ ?_ ?_ _ | refine St.Sub.keep ?_ ?_ | refine St.WF.leave ?_ _ | refine St.WF.add ?_ _ | refine St.WF.set ?_ ?_ _ | refine St.WF.grow ?_ _ _ _ | refine St.WF.keep ?_ ?_ | (first | omega | (simp only [RowOk.lo, nx]; first | done | omega))))⟩
  rfl
theorem ahead_dec {l : List DMk} (hl : Asc l) (m : DMk) {i : Nat} (hi : i < l.length) : (!ltM l[i] m) = decide (ahead l m ≤ i) := by
  rw [Bool.eq_iff_iff]
  simp only [Bool.not_eq_true', decide_eq_true_eq, ltM, decide_eq_false_iff_not]
  constructor
  · intro h
    rcases Nat.lt_or_ge i (ahead l m) with h1 | h1
    · exact absurd (ahead_lt h1 hi) h
    · exact h1
  · intro h hk
    have h0 : ahead l m < l.length := by omega
    have h1 := ahead_ge h0
    rcases Nat.eq_or_lt_of_le h with h2 | h2
    · exact h1 (by simp only [h2]; exact hk)
    · have := (List.pairwise_iff_getElem.1 hl) (ahead l m) i h0 hi h2
      omega
theorem place_d (own : Own) (l : List DMk) (m : DMk) (hl : Asc l) (hn : l.length ≤ 1000000) : DPure Try.prog 21 [.sl own (l.map encM), encM m] (.tup [.v (.int .i64 (ahead l m : Nat)), .v (.bool (decide (l[ahead l m]? = some m)))]) := by
  refine dpure_of_dwp mixed Try.func21 rfl (fun _ _ => by kernel_rfl) (rs := [.tmp 4, .tmp 5]) rfl (by kernel_rfl) (by simp [D.closed, D.all, allL]) (fun S hS => ?_)
  (simp (disch := first | decide | omega | (simp only [nx]; first | done | omega)) only [go_sem]; (repeat with_reducible refine aI ?_))
  have hle := ahead_le l m
  refine go_at (search_at (k := ahead l m) hn hle fun i hi T hT hob => ?_) ?_
  · have := place1_at (T := T) (kl := S.next) (km := S.next + 1) (own := own) (l := l) (m := m) (hob _ _ (by (first | (simp (disch := first | decide | omega | (simp only [nx]; first | done | omega)) only [go_sem]; first | done | rfl) | rfl))) (hob _ _ (by (first | (simp (disch := first | decide | omega | (simp only [nx]; first | done | omega)) only [go_sem]; first | done | rfl) | rfl))) hi
    rw [ahead_dec hl m hi] at this
    exact this
  (simp (disch := first | decide | omega | (simp only [nx]; first | done | omega)) only [go_sem]; (repeat with_reducible refine aI ?_))
  by_cases hlt : ahead l m < l.length
  · have b1 : decide (((ahead l m : Nat) : Int) < (l.length : Int)) = true := by simp; omega
    refine ddraw_mk 15 (by kernel_rfl) ?_
    (simp (disch := first | decide | omega | (simp only [nx]; first | done | omega)) only [go_sem, b1, hlt]; (repeat with_reducible refine aI ?_))
    refine ⟨?_, (by (repeat' first | assumption | exact St.Sub.refl _ | exact RowOk.sub (by assumption) (by assumption) | refine St.Sub.trans ?_ (RowOk.sub (by assumption) (by assumption)) | refine St.Sub.add ?_ ?_ _ | refine St.Sub.set ?_ ?_ ?_ _ | refine St.Sub.keep ?_ ?_ | refine St.WF.leave ?_ _ | refine St.WF.add ?_ _ | refine St.WF.set ?_ ?_ _ | refine St.WF.grow ?_ _ _ _ | refine St.WF.keep ?_ ?_ | (first | omega | (simp only [RowOk.lo, nx]; first | done | omega))))⟩
    simp only [D.frz, frzL, List.getElem?_eq_getElem hlt, Option.some.injEq]
  · have b1 : decide (((ahead l m : Nat) : Int) < (l.length : Int)) = false := by simp; omega
    refine ddraw_mk 15 (by kernel_rfl) ?_
    (simp (disch := first | decide | omega | (simp only [nx]; first | done | omega)) only [go_sem, b1]; (repeat with_reducible refine aI ?_))
    refine ⟨?_, (by (repeat' first | assumption | exact St.Sub.refl _ | exact RowOk.sub (by assumption) (by assumption) | refine St.Sub.trans ?_ (RowOk.sub (by assumption) (by assumption)) | refine St.Sub.add ?_ ?_ _ | refine St.Sub.set ?_ ?_ ?_ _ | refine St.Sub.keep ?_ ?_ | refine St.WF.leave ?_ _ | refine St.WF.add ?_ _ | refine St.WF.set ?_ ?_ _ | refine St.WF.grow ?_ _ _ _ | refine St.WF.keep ?_ ?_ | (first | omega | (simp only [RowOk.lo, nx]; first | done | omega))))⟩
    rw [List.getElem?_eq_none (by omega)]
    rfl
theorem linsert_w {S : St} (own : Own) (l : List DMk) (m : DMk) (hl : Asc l) (hn : l.length ≤ 1000000) :
    DCalls Try.prog 20 [.sl own (l.map encM), encM m] S fun d T => ∃ k c zs, d = .tup [.win k 0 (insM l m).length c, .v (.int .i64 (ahead l m : Nat)), .v (.bool (freshM l m))] ∧ S.next ≤ k ∧ OwnM T k c zs (insM l m) ∧ S.Sub T := by
  refine dcalls_inline mixed Try.func20 rfl (fun _ _ => by kernel_rfl) (rs := [.tmp 4, .tmp 5, .tmp 6]) rfl (by kernel_rfl) (fun hS => ?_)
  (simp (disch := first | decide | omega | (simp only [nx]; first | done | omega)) only [go_sem]; (repeat with_reducible refine aI ?_))
  refine DCalls.of_pure (place_d own l m hl hn) ?_
  (simp (disch := first | decide | omega | (simp only [nx]; first | done | omega)) only [go_sem]; (repeat with_reducible refine aI ?_))
  refine dapp_nil elMk (dappend_fresh elMk (by rw [elMk]; rfl) zeMk zoMk (es2 := l.map encM) (srcOk_sl (by rw [szMk]; exact wMk l)) rfl (by rw [List.length_map]; omega) (by rw [byMk, List.length_map]; omega) fun c zs h1 h2 => ?_)
  rw [szMk] at h2
  rw [List.length_map] at h1
  have hle := ahead_le l m
  by_cases he : l[ahead l m]? = some m
  · have b1 : decide (l[ahead l m]? = some m) = true := decide_eq_true he
    (simp (disch := first | decide | omega | (simp only [nx]; first | done | omega)) only [go_sem, b1]; (repeat with_reducible refine aI ?_))
    have hi : insM l m = l := by unfold insM; rw [if_pos he]
    have hf : freshM l m = false := by unfold freshM; rw [b1]; rfl
    rw [hi, hf]
    refine ⟨_, c, zs, by first | rfl | (rw [List.length_map]; rfl), by show S.next ≤ S.next + 1; omega, ⟨by (first | (simp (disch := first | decide | omega | (simp only [nx]; first | done | omega)) only [go_sem]; first | done | rfl) | rfl), h2, by simp (disch := first | decide | omega | (simp only [nx]; first | done | omega)) only [go_sem]; omega⟩, (by (repeat' first | assumption | exact St.Sub.refl _ | exact RowOk.sub (by assumption) (by assumption) | refine St.Sub.trans ?_ (RowOk.sub (by assumption) (by assumption)) | refine St.Sub.add ?_ ?_ _ | refine St.Sub.set ?_ ?_ ?_ _ | refine St.Sub.keep ?_ ?_ | refine St.WF.leave ?_ _ | refine St.WF.add ?_ _ | refine St.WF.set ?_ ?_ _ | refine St.WF.grow ?_ _ _ _ | refine St.WF.keep ?_ ?_ | (first | omega | (simp only [RowOk.lo, nx]; first | done | omega))))⟩
  · have b1 : decide (l[ahead l m]? = some m) = false := decide_eq_false he
    have hi : insM l m = l.take (ahead l m) ++ m :: l.drop (ahead l m) := by unfold insM; rw [if_neg he]
    have hf : freshM l m = true := by unfold freshM; rw [b1]; rfl
    (simp (disch := first | decide | omega | (simp only [nx]; first | done | omega)) only [go_sem, b1]; (repeat with_reducible refine aI ?_))
    refine ins_mk (c := c) (zs := zs) (es := l.map encM) (x := encM m) (i := ahead l m) (by (first | (simp (disch := first | decide | omega | (simp only [nx]; first | done | omega)) only [go_sem]; first | done | rfl) | rfl)) h2 (wMk l) (width_encM m) (by rw [List.length_map]; exact hle) (by rw [List.length_map]; omega) (by simp (disch := first | decide | omega | (simp only [nx]; first | done | omega)) only [go_sem]; omega) (by rw [List.length_map]) fun c' zs' h3 h4 => ?_
    (simp (disch := first | decide | omega | (simp only [nx]; first | done | omega)) only [go_sem]; (repeat with_reducible refine aI ?_))
    have e : (l.map encM).take (ahead l m) ++ [encM m] ++ (l.map encM).drop (ahead l m) = (insM l m).map encM := by rw [hi]; simp
    rw [e] at h4 ⊢
    have hlen : (insM l m).length = l.length + 1 := by rw [hi]; simp; omega
    rw [hf, hlen]
    have sb : S.Sub ((S.add (.box 26 (mkCs m))).add (ownOb 26 (l.map encM) zs c)) := (by (repeat' first | assumption | exact St.Sub.refl _ | exact RowOk.sub (by assumption) (by assumption) | refine St.Sub.trans ?_ (RowOk.sub (by assumption) (by assumption)) | refine St.Sub.add ?_ ?_ _ | refine St.Sub.set ?_ ?_ ?_ _ | refine St.Sub.keep ?_ ?_ | refine St.WF.leave ?_ _ | refine St.WF.add ?_ _ | refine St.WF.set ?_ ?_ _ | refine St.WF.grow ?_ _ _ _ | refine St.WF.keep ?_ ?_ | (first | omega | (simp only [RowOk.lo, nx]; first | done | omega))))
    refine ⟨_, c', zs', by first | rfl | (rw [List.length_map]; rfl), ?_, ⟨by (first | (simp (disch := first | decide | omega | (simp only [nx]; first | done | omega)) only [go_sem]; first | done | rfl) | rfl), h4, by simp (disch := first | decide | omega | (simp only [nx]; first | done | omega)) only [go_sem]; omega⟩, (St.Sub.drop sb hS (by omega)).add hS _⟩
    show S.next ≤ S.next + 1 + 1
    omega
end
end Go.Proofs.Ytgadflonnnkjcaa

namespace Go.Proofs.Ytgadflonnnkjcaa
open Go.RowKit
def mergeM : List DMk → List DMk → List DMk
  | [], b => b
  | x :: a, [] => x :: a
  | x :: a, y :: b => if ltM y x then y :: mergeM (x :: a) b else if x = y then x :: mergeM a b else x :: mergeM a (y :: b)
termination_by a b => a.length + b.length
theorem mergeM_nilr (a : List DMk) : mergeM a [] = a := by cases a <;> simp [mergeM]
theorem mergeM_nill (b : List DMk) : mergeM [] b = b := by simp [mergeM]
theorem mergeM_lt {x y : DMk} {a b : List DMk} (h : ltM y x = true) : mergeM (x :: a) (y :: b) = y :: mergeM (x :: a) b := by rw [mergeM, if_pos h]
theorem mergeM_eq {x : DMk} {a b : List DMk} : mergeM (x :: a) (x :: b) = x :: mergeM a b := by rw [mergeM, if_neg (by simp [ltM]), if_pos rfl]
theorem mergeM_gt {x y : DMk} {a b : List DMk} (h : ltM y x = false) (h2 : x ≠ y) : mergeM (x :: a) (y :: b) = x :: mergeM a (y :: b) := by rw [mergeM, if_neg (by simp [h]), if_neg h2]
theorem mergeM_len (a b : List DMk) : (mergeM a b).length ≤ a.length + b.length := by
  fun_induction mergeM a b with
  | case1 b => simp
  | case2 x a => simp
  | case3 x a y b h ih => simp only [List.length_cons] at *; omega
  | case4 a x b h ih => simp only [List.length_cons] at *; omega
  | case5 x a y b h h2 ih => simp only [List.length_cons] at *; omega
end Go.Proofs.Ytgadflonnnkjcaa

namespace Go.Proofs.Ytgadflonnnkjcaa
open Go.RowKit
theorem head_drop {a : List DMk} (h : 0 < a.length) : a = a[0] :: a.drop 1 := by rw [← List.drop_eq_getElem_cons h, List.drop_zero]
theorem drop1_map (a : List DMk) : (a.map encM).drop 1 = (a.drop 1).map encM := List.map_drop.symm
theorem takeA_map (a : List DMk) : (a.map encM).take a.length = a.map encM := List.take_of_length_le (by rw [List.length_map]; omega)
structure GrM (S T : St) (out : List DMk) (d : D) : Prop where
  own : OwnD Try.prog T 26 (out.map encM) d
  lo : ∀ k o n c, d = .win k o n c → S.next ≤ k
  sub : S.Sub T
section
set_option maxRecDepth 200000
set_option maxHeartbeats 4000000
theorem grM_app {S T : St} {out : List DMk} {d : D} {m : DMk} {o2 : Own} {K : D → St → Prop} (hS : S.WF) (h : GrM S T out d) (hl : out.length ≤ 2000000)
    (k : ∀ (c' : Nat) (zs' : List D), GrM S ((T.left d).add (ownOb 26 ((out ++ [m]).map encM) zs' c')) (out ++ [m]) (.win T.next 0 (out.length + 1) c') → (T.left d).next = T.next → K (.win T.next 0 (out.length + 1) c') ((T.left d).add (ownOb 26 ((out ++ [m]).map encM) zs' c'))) :
    dapp Try.prog T 22 22 22 d (.sl o2 [encM m]) K := by
  refine dapp_ownD elMk (by rw [elMk]; rfl) zeMk zoMk h.own (by rw [szMk]; exact wMk out) (es2 := [encM m]) (by rw [szMk]; exact fun d hd => by obtain rfl := List.mem_singleton.1 hd; exact width_encM m) (by rw [List.length_map]; simp; omega) (by rw [List.length_map, byMk]; simp; omega) fun c' zs' h1 => ?_
  have e : out.map encM ++ [encM m] = (out ++ [m]).map encM := by simp
  rw [e] at h1 ⊢
  have hsub := OwnD.sub hS h.sub h.own h.lo
  rw [List.length_map]
  refine k c' zs' ⟨.inr ⟨T.next, c', zs', by rw [List.length_map, List.length_append]; rfl, ?_, h1, ?_⟩, fun k o n c hk => ?_, ?_⟩ (left_next T d)
  · show (if T.next = (T.left d).next then _ else _) = _
    rw [left_next, if_pos rfl]
  · show T.next < (T.left d).next + 1
    rw [left_next]; omega
  · injection hk with hk
    rw [← hk]
    exact h.sub.next
  · exact hsub.add hS _
theorem merge_w {S : St} (own own2 : Own) (a b : List DMk) (ha : a.length ≤ 1000000) (hb : b.length ≤ 1000000) :
    DCalls Try.prog 17 [.sl own (a.map encM), .sl own2 (b.map encM)] S fun d T => ∃ k c zs, d = .win k 0 (mergeM a b).length c ∧ S.next ≤ k ∧ OwnM T k c zs (mergeM a b) ∧ S.Sub T := by
  refine DCalls.thaw ?_
  refine dcalls_inline mixed Try.func17 rfl (fun _ _ => by kernel_rfl) (rs := [.tmp 4]) rfl (by kernel_rfl) (fun hS => ?_)
  (simp (disch := first | decide | omega | (simp only [nx]; first | done | omega)) only [go_sem]; (repeat with_reducible refine aI ?_))
  refine dloop_up (fun t => List.contains [0, 1, 5, 6, 7, 8, 9, 10, 11, 12, 13, 14, 15, 16, 17, 18, 19, 20, 21, 22, 23, 24, 25, 26, 27, 28, 29, 30, 31, 32, 33, 34, 35, 36, 37, 38, 39, 40, 41, 42, 43, 44, 45, 46, 47, 48, 49, 50, 51, 52, 53, 54, 55, 56, 57, 58, 59, 60, 61] t) (by kernel_rfl) (by exact (by (repeat' first | assumption | refine St.WF.leave ?_ _ | refine St.WF.add ?_ _ | refine St.WF.set ?_ ?_ _ | refine St.WF.grow ?_ _ _ _ | refine St.WF.keep ?_ ?_ | (first | omega | (simp only [RowOk.lo, nx]; first | done | omega))))) (a.length + b.length) (fun t g T => ∃ a' b' out o0 o1, t + a'.length + b'.length ≤ a.length + b.length ∧ mergeM a b = out ++ mergeM a' b' ∧ g 0 = .sl o0 (a'.map encM) ∧ g 1 = .sl o1 (b'.map encM) ∧ GrM S T out (g 5)) ⟨a, b, [], own, own2, by omega, rfl, by (first | (simp (disch := first | decide | omega | (simp only [nx]; first | done | omega)) only [go_sem]; first | done | rfl) | rfl), by (first | (simp (disch := first | decide | omega | (simp only [nx]; first | done | omega)) only [go_sem]; first | done | rfl) | rfl), .inl ⟨rfl, by (first | (simp (disch := first | decide | omega | (simp only [nx]; first | done | omega)) only [go_sem]; first | done | rfl) | rfl)⟩, (fun k o n c e => by simp (disch := first | decide | omega | (simp only [nx]; first | done | omega)) only [go_sem] at e; cases e), St.Sub.refl S⟩ ?_
  rintro t g T hT hg ⟨a', b', out, o0, o1, hlen, hm, q0, q1, hG⟩
  (have q4 := hg 4 rfl; simp (disch := first | decide | omega | (simp only [nx]; first | done | omega)) only [go_sem] at q4; clear hg)
  have hml := mergeM_len a b
  have hol : out.length ≤ 2000000 := by rw [hm, List.length_append] at hml; omega
  have l1 := drop1_map a'
  have l2 := drop1_map b'
  have l3 := takeA_map a'
  have l4 := takeA_map b'
  have l5 : (∀ d, d ∈ List.map encM a' → d.cells.length = 33) = True := eq_true (wMk a')
  have l6 : (∀ d, d ∈ List.map encM b' → d.cells.length = 33) = True := eq_true (wMk b')
  by_cases ha0 : 0 < a'.length
  · have b1 : decide ((0 : Int) < (a'.length : Int)) = true := decide_eq_true (by omega)
    have ea := head_drop ha0
    have i1 : ((a'.map encM).getD 0 undefD) = encM a'[0] := by rw [List.getD_eq_getElem?_getD, List.getElem?_map, List.getElem?_eq_getElem ha0]; rfl
    have p1 : ((1 : Int) ≤ (a'.length : Int)) = True := eq_true (by omega)
    have step : ∀ (T2 : St) (o1' : Own) (b2 : List DMk) (g2 : Fm), b2.length ≤ b'.length → mergeM a' b' = a'[0] :: mergeM (a'.drop 1) b2 → g2 0 = .sl .no ((a'.drop 1).map encM) → g2 1 = .sl o1' (b2.map encM) → GrM S T2 (out ++ [a'[0]]) (g2 5) → dnextU (fun t g T => ∃ a' b' out o0 o1, t + a'.length + b'.length ≤ a.length + b.length ∧ mergeM a b = out ++ mergeM a' b' ∧ g 0 = .sl o0 (a'.map encM) ∧ g 1 = .sl o1 (b'.map encM) ∧ GrM S T out (g 5)) (a.length + b.length) t g2 T2 := fun T2 o1' b2 g2 h1 h2 h3 h4 h5 =>
      ⟨by omega, T2.ob, fun _ _ h => h, a'.drop 1, b2, out ++ [a'[0]], .no, o1', by rw [List.length_drop]; omega, by rw [hm, h2, List.append_assoc]; rfl, h3, h4, h5⟩
    by_cases hb0 : 0 < b'.length
    · have b2 : decide ((0 : Int) < (b'.length : Int)) = true := decide_eq_true (by omega)
      have b3 : ((b'.length : Int) == 0) = false := by rw [beq_eq_false_iff_ne]; omega
      have p2 : ((1 : Int) ≤ (b'.length : Int)) = True := eq_true (by omega)
      have eb := head_drop hb0
      have i2 : ((b'.map encM).getD 0 undefD) = encM b'[0] := by rw [List.getD_eq_getElem?_getD, List.getElem?_map, List.getElem?_eq_getElem hb0]; rfl
      (simp (disch := first | decide | omega | (simp only [nx]; first | done | omega)) only [go_sem, q0, q1, b1]; (repeat with_reducible refine aI ?_))
      refine ddraw_mk 18 (by kernel_rfl) ?_
      (simp (disch := first | decide | omega | (simp only [nx]; first | done | omega)) only [go_sem, q0, q1, b1, b2, b3, ha0, hb0, i1, i2]; (repeat with_reducible refine aI ?_))
      refine dqgo_mk (less_d b'[0] a'[0]) ?_
      cases hlt : ltM b'[0] a'[0] with
      | true =>
        (simp (disch := first | decide | omega | (simp only [nx]; first | done | omega)) only [go_sem, q0, q1, b1, b2]; (repeat with_reducible refine aI ?_))
        refine ddraw_any (fun _ => True) 10 (by (first | (simp (disch := first | decide | omega | (simp only [nx]; first | done | omega)) only [go_sem, q0]; first | done | rfl) | rfl)) (by kernel_rfl) ?_
        (refine s_take 0 rfl (by kernel_rfl) (by kernel_rfl) (v := ?v1) (fun S' hz => dquietR_of ?h1) <| s_take 1 rfl (by kernel_rfl) (by kernel_rfl) (v := ?v2) (fun S' hz => dquietR_of ?h2) <| s_take 2 rfl (by kernel_rfl) (by kernel_rfl) (v := ?v3) (fun S' hz => dquietR_of ?h3) <| s_take 3 rfl (by kernel_rfl) (by kernel_rfl) (v := ?v4) (fun S' hz => dquietR_of ?h4) <| s_take 4 rfl (by kernel_rfl) (by kernel_rfl) (v := ?v5) (fun S' hz => dquietR_of ?h5) <| s_take 6 rfl (by kernel_rfl) (by kernel_rfl) (v := ?v6) (fun S' hz => dquietR_of ?h6) <| s_take 7 rfl (by kernel_rfl) (by kernel_rfl) (v := ?v7) (fun S' hz => dquietR_of ?h7) <| ?k7; (case h1 | h2 | h3 | h4 | h5 | h6 | h7 => ((simp (disch := first | decide | omega | (simp only [nx]; first | done | omega)) only [go_sem, q0, q1, b1, b2, hb0, i1, i2, l2, l4, l6, p2, or_true, hz]; (repeat with_reducible refine aI ?_)); first | done | exact rfl | omega)))
        (refine s_split [5] (by kernel_rfl) (by simp) ?_; intro j_ hj_; obtain rfl : j_ = 5 := (by simpa using hj_); clear hj_; refine s_op rfl ?_; (simp (disch := first | decide | omega | (simp only [nx]; first | done | omega)) only [go_sem]; (repeat with_reducible refine aI ?_)))
        refine grM_app hS hG hol fun c' zs' hG' hnx => ?_
        (refine s_take 8 rfl (by kernel_rfl) (by kernel_rfl) (v := ?v8) (fun S' hz => dquietR_of ?h8) <| s_take 9 rfl (by kernel_rfl) (by kernel_rfl) (v := ?v9) (fun S' hz => dquietR_of ?h9) <| ?k9; (case h8 | h9 => ((simp (disch := first | decide | omega | (simp only [nx]; first | done | omega)) only [go_sem, q0, q1, l2, l4, hz]; (repeat with_reducible refine aI ?_)); first | done | exact rfl | omega)))
        (refine s_done (by kernel_rfl) ?_; (simp (disch := first | decide | omega | (simp only [nx]; first | done | omega)) only [go_sem, q0, q1, l2, l4]; (repeat with_reducible refine aI ?_)))
        refine ⟨by omega, _, fun _ _ h => h, a', b'.drop 1, out ++ [b'[0]], o0, .no, by rw [List.length_drop]; omega, ?_, by (first | (simp (disch := first | decide | omega | (simp only [nx]; first | done | omega)) only [go_sem, q0]; first | done | rfl) | rfl), by (first | (simp (disch := first | decide | omega | (simp only [nx]; first | done | omega)) only [go_sem]; first | done | rfl) | rfl), ?_⟩
        · rw [hm, List.append_assoc]
          conv => lhs; rw [ea, eb, mergeM_lt hlt, ← ea]
          rfl
        · simp (disch := first | decide | omega | (simp only [nx]; first | done | omega)) only [go_sem]
          exact hG'
      | false =>
        (simp (disch := first | decide | omega | (simp only [nx]; first | done | omega)) only [go_sem, q0, q1, b1, b2]; (repeat with_reducible refine aI ?_))
        refine ddraw_mk 12 (by kernel_rfl) ?_
        by_cases he : a'[0] = b'[0]
        · have b4 : decide (a'[0] = b'[0]) = true := decide_eq_true he
          (simp (disch := first | decide | omega | (simp only [nx]; first | done | omega)) only [go_sem, q0, q1, b1, b2, ha0, hb0, i1, i2, b4, l2, l4, l6, p2, or_true]; (repeat with_reducible refine aI ?_))
          refine ddraw_any (fun _ => True) 10 (by (first | (simp (disch := first | decide | omega | (simp only [nx]; first | done | omega)) only [go_sem, q0]; first | done | rfl) | rfl)) (by kernel_rfl) ?_
          (refine s_take 0 rfl (by kernel_rfl) (by kernel_rfl) (v := ?v10) (fun S' hz => dquietR_of ?h10) <| s_take 1 rfl (by kernel_rfl) (by kernel_rfl) (v := ?v11) (fun S' hz => dquietR_of ?h11) <| s_take 2 rfl (by kernel_rfl) (by kernel_rfl) (v := ?v12) (fun S' hz => dquietR_of ?h12) <| s_take 3 rfl (by kernel_rfl) (by kernel_rfl) (v := ?v13) (fun S' hz => dquietR_of ?h13) <| s_take 4 rfl (by kernel_rfl) (by kernel_rfl) (v := ?v14) (fun S' hz => dquietR_of ?h14) <| s_take 6 rfl (by kernel_rfl) (by kernel_rfl) (v := ?v15) (fun S' hz => dquietR_of ?h15) <| s_take 7 rfl (by kernel_rfl) (by kernel_rfl) (v := ?v16) (fun S' hz => dquietR_of ?h16) <| ?k16; (case h10 | h11 | h12 | h13 | h14 | h15 | h16 => ((simp (disch := first | decide | omega | (simp only [nx]; first | done | omega)) only [go_sem, q0, q1, ha0, i1, l1, l3, l5, p1, or_true, hz]; (repeat with_reducible refine aI ?_)); first | done | exact rfl | omega)))
          (refine s_split [5] (by kernel_rfl) (by simp) ?_; intro j_ hj_; obtain rfl : j_ = 5 := (by simpa using hj_); clear hj_; refine s_op rfl ?_; (simp (disch := first | decide | omega | (simp only [nx]; first | done | omega)) only [go_sem]; (repeat with_reducible refine aI ?_)))
          refine grM_app hS hG hol fun c' zs' hG' hnx => ?_
          (refine s_take 8 rfl (by kernel_rfl) (by kernel_rfl) (v := ?v17) (fun S' hz => dquietR_of ?h17) <| s_take 9 rfl (by kernel_rfl) (by kernel_rfl) (v := ?v18) (fun S' hz => dquietR_of ?h18) <| ?k18; (case h17 | h18 => ((simp (disch := first | decide | omega | (simp only [nx]; first | done | omega)) only [go_sem, q0, q1, l1, l3, hz]; (repeat with_reducible refine aI ?_)); first | done | exact rfl | omega)))
          (refine s_done (by kernel_rfl) ?_; (simp (disch := first | decide | omega | (simp only [nx]; first | done | omega)) only [go_sem, q0, q1, l1, l3]; (repeat with_reducible refine aI ?_)))
          exact step _ .no (b'.drop 1) _ (by rw [List.length_drop]; omega) (by conv => { lhs; rw [ea, eb, ← he, mergeM_eq] }) (by (first | (simp (disch := first | decide | omega | (simp only [nx]; first | done | omega)) only [go_sem]; first | done | rfl) | rfl)) (by (first | (simp (disch := first | decide | omega | (simp only [nx]; first | done | omega)) only [go_sem, q1, l2, l4]; first | done | rfl) | rfl)) (by simp (disch := first | decide | omega | (simp only [nx]; first | done | omega)) only [go_sem]; exact hG')
        · have b4 : decide (a'[0] = b'[0]) = false := decide_eq_false he
          (simp (disch := first | decide | omega | (simp only [nx]; first | done | omega)) only [go_sem, q0, q1, b1, b2, ha0, hb0, i1, i2, b4]; (repeat with_reducible refine aI ?_))
          refine ddraw_any (fun _ => True) 10 (by (first | (simp (disch := first | decide | omega | (simp only [nx]; first | done | omega)) only [go_sem, q0]; first | done | rfl) | rfl)) (by kernel_rfl) ?_
          (refine s_take 0 rfl (by kernel_rfl) (by kernel_rfl) (v := ?v19) (fun S' hz => dquietR_of ?h19) <| s_take 1 rfl (by kernel_rfl) (by kernel_rfl) (v := ?v20) (fun S' hz => dquietR_of ?h20) <| s_take 2 rfl (by kernel_rfl) (by kernel_rfl) (v := ?v21) (fun S' hz => dquietR_of ?h21) <| s_take 3 rfl (by kernel_rfl) (by kernel_rfl) (v := ?v22) (fun S' hz => dquietR_of ?h22) <| s_take 4 rfl (by kernel_rfl) (by kernel_rfl) (v := ?v23) (fun S' hz => dquietR_of ?h23) <| s_take 6 rfl (by kernel_rfl) (by kernel_rfl) (v := ?v24) (fun S' hz => dquietR_of ?h24) <| s_take 7 rfl (by kernel_rfl) (by kernel_rfl) (v := ?v25) (fun S' hz => dquietR_of ?h25) <| ?k25; (case h19 | h20 | h21 | h22 | h23 | h24 | h25 => ((simp (disch := first | decide | omega | (simp only [nx]; first | done | omega)) only [go_sem, q0, q1, ha0, i1, l1, l3, l5, p1, or_true, hz]; (repeat with_reducible refine aI ?_)); first | done | exact rfl | omega)))
          (refine s_split [5] (by kernel_rfl) (by simp) ?_; intro j_ hj_; obtain rfl : j_ = 5 := (by simpa using hj_); clear hj_; refine s_op rfl ?_; (simp (disch := first | decide | omega | (simp only [nx]; first | done | omega)) only [go_sem]; (repeat with_reducible refine aI ?_)))
          refine grM_app hS hG hol fun c' zs' hG' hnx => ?_
          (refine s_take 8 rfl (by kernel_rfl) (by kernel_rfl) (v := ?v26) (fun S' hz => dquietR_of ?h26) <| s_take 9 rfl (by kernel_rfl) (by kernel_rfl) (v := ?v27) (fun S' hz => dquietR_of ?h27) <| ?k27; (case h26 | h27 => ((simp (disch := first | decide | omega | (simp only [nx]; first | done | omega)) only [go_sem, q0, q1, l1, l3, hz]; (repeat with_reducible refine aI ?_)); first | done | exact rfl | omega)))
          (refine s_done (by kernel_rfl) ?_; (simp (disch := first | decide | omega | (simp only [nx]; first | done | omega)) only [go_sem, q0, q1, l1, l3]; (repeat with_reducible refine aI ?_)))
          exact step _ o1 b' _ (Nat.le_refl _) (by conv => { lhs; rw [ea, eb, mergeM_gt hlt he, ← eb] }) (by (first | (simp (disch := first | decide | omega | (simp only [nx]; first | done | omega)) only [go_sem]; first | done | rfl) | rfl)) (by (first | (simp (disch := first | decide | omega | (simp only [nx]; first | done | omega)) only [go_sem, q1, l2, l4]; first | done | rfl) | rfl)) (by simp (disch := first | decide | omega | (simp only [nx]; first | done | omega)) only [go_sem]; exact hG')
    · have b2 : decide ((0 : Int) < (b'.length : Int)) = false := decide_eq_false (by omega)
      have b3 : ((b'.length : Int) == 0) = true := by rw [beq_iff_eq]; omega
      (simp (disch := first | decide | omega | (simp only [nx]; first | done | omega)) only [go_sem, q0, q1, b1]; (repeat with_reducible refine aI ?_))
      refine ddraw_mk 18 (by kernel_rfl) ?_
      (simp (disch := first | decide | omega | (simp only [nx]; first | done | omega)) only [go_sem, q0, q1, b1, b2, b3]; (repeat with_reducible refine aI ?_))
      refine ddraw_mk 12 (by kernel_rfl) ?_
      (simp (disch := first | decide | omega | (simp only [nx]; first | done | omega)) only [go_sem, q0, q1, b1, b2]; (repeat with_reducible refine aI ?_))
      refine ddraw_any (fun _ => True) 10 (by (first | (simp (disch := first | decide | omega | (simp only [nx]; first | done | omega)) only [go_sem, q0]; first | done | rfl) | rfl)) (by kernel_rfl) ?_
      (refine s_take 0 rfl (by kernel_rfl) (by kernel_rfl) (v := ?v28) (fun S' hz => dquietR_of ?h28) <| s_take 1 rfl (by kernel_rfl) (by kernel_rfl) (v := ?v29) (fun S' hz => dquietR_of ?h29) <| s_take 2 rfl (by kernel_rfl) (by kernel_rfl) (v := ?v30) (fun S' hz => dquietR_of ?h30) <| s_take 3 rfl (by kernel_rfl) (by kernel_rfl) (v := ?v31) (fun S' hz => dquietR_of ?h31) <| s_take 4 rfl (by kernel_rfl) (by kernel_rfl) (v := ?v32) (fun S' hz => dquietR_of ?h32) <| s_take 6 rfl (by kernel_rfl) (by kernel_rfl) (v := ?v33) (fun S' hz => dquietR_of ?h33) <| s_take 7 rfl (by kernel_rfl) (by kernel_rfl) (v := ?v34) (fun S' hz => dquietR_of ?h34) <| ?k34; (case h28 | h29 | h30 | h31 | h32 | h33 | h34 => ((simp (disch := first | decide | omega | (simp only [nx]; first | done | omega)) only [go_sem, q0, q1, ha0, i1, l1, l3, l5, p1, or_true, hz]; (repeat with_reducible refine aI ?_)); first | done | exact rfl | omega)))
      (refine s_split [5] (by kernel_rfl) (by simp) ?_; intro j_ hj_; obtain rfl : j_ = 5 := (by simpa using hj_); clear hj_; refine s_op rfl ?_; (simp (disch := first | decide | omega | (simp only [nx]; first | done | omega)) only [go_sem]; (repeat with_reducible refine aI ?_)))
      refine grM_app hS hG hol fun c' zs' hG' hnx => ?_
      (refine s_take 8 rfl (by kernel_rfl) (by kernel_rfl) (v := ?v35) (fun S' hz => dquietR_of ?h35) <| s_take 9 rfl (by kernel_rfl) (by kernel_rfl) (v := ?v36) (fun S' hz => dquietR_of ?h36) <| ?k36; (case h35 | h36 => ((simp (disch := first | decide | omega | (simp only [nx]; first | done | omega)) only [go_sem, q0, q1, l1, l3, hz]; (repeat with_reducible refine aI ?_)); first | done | exact rfl | omega)))
      (refine s_done (by kernel_rfl) ?_; (simp (disch := first | decide | omega | (simp only [nx]; first | done | omega)) only [go_sem, q0, q1, l1, l3]; (repeat with_reducible refine aI ?_)))
      exact step _ o1 b' _ (Nat.le_refl _) (by have eb := List.eq_nil_of_length_eq_zero (show b'.length = 0 by omega); subst eb; rw [mergeM_nilr, mergeM_nilr]; exact ea) (by (first | (simp (disch := first | decide | omega | (simp only [nx]; first | done | omega)) only [go_sem]; first | done | rfl) | rfl)) (by (first | (simp (disch := first | decide | omega | (simp only [nx]; first | done | omega)) only [go_sem, q1, l2, l4]; first | done | rfl) | rfl)) (by simp (disch := first | decide | omega | (simp only [nx]; first | done | omega)) only [go_sem]; exact hG')
  · have b1 : decide ((0 : Int) < (a'.length : Int)) = false := decide_eq_false (by omega)
    have ea : a' = [] := List.eq_nil_of_length_eq_zero (by omega)
    by_cases hb0 : 0 < b'.length
    · have b2 : decide ((0 : Int) < (b'.length : Int)) = true := decide_eq_true (by omega)
      have b3 : ((b'.length : Int) == 0) = false := by rw [beq_eq_false_iff_ne]; omega
      have eb := head_drop hb0
      have p2 : ((1 : Int) ≤ (b'.length : Int)) = True := eq_true (by omega)
      have i2 : ((b'.map encM).getD 0 undefD) = encM b'[0] := by rw [List.getD_eq_getElem?_getD, List.getElem?_map, List.getElem?_eq_getElem hb0]; rfl
      (simp (disch := first | decide | omega | (simp only [nx]; first | done | omega)) only [go_sem, q0, q1, b1, b2]; (repeat with_reducible refine aI ?_))
      refine ddraw_mk 18 (by kernel_rfl) ?_
      (simp (disch := first | decide | omega | (simp only [nx]; first | done | omega)) only [go_sem, q0, q1, b1, b2, b3]; (repeat with_reducible refine aI ?_))
      refine ddraw_any (fun _ => True) 10 (by (first | (simp (disch := first | decide | omega | (simp only [nx]; first | done | omega)) only [go_sem, q0]; first | done | rfl) | rfl)) (by kernel_rfl) ?_
      (refine s_take 0 rfl (by kernel_rfl) (by kernel_rfl) (v := ?v37) (fun S' hz => dquietR_of ?h37) <| s_take 1 rfl (by kernel_rfl) (by kernel_rfl) (v := ?v38) (fun S' hz => dquietR_of ?h38) <| s_take 2 rfl (by kernel_rfl) (by kernel_rfl) (v := ?v39) (fun S' hz => dquietR_of ?h39) <| s_take 3 rfl (by kernel_rfl) (by kernel_rfl) (v := ?v40) (fun S' hz => dquietR_of ?h40) <| s_take 4 rfl (by kernel_rfl) (by kernel_rfl) (v := ?v41) (fun S' hz => dquietR_of ?h41) <| s_take 6 rfl (by kernel_rfl) (by kernel_rfl) (v := ?v42) (fun S' hz => dquietR_of ?h42) <| s_take 7 rfl (by kernel_rfl) (by kernel_rfl) (v := ?v43) (fun S' hz => dquietR_of ?h43) <| ?k43; (case h37 | h38 | h39 | h40 | h41 | h42 | h43 => ((simp (disch := first | decide | omega | (simp only [nx]; first | done | omega)) only [go_sem, q0, q1, b1, b2, hb0, i2, l2, l4, l6, p2, or_true, hz]; (repeat with_reducible refine aI ?_)); first | done | exact rfl | omega)))
      (refine s_split [5] (by kernel_rfl) (by simp) ?_; intro j_ hj_; obtain rfl : j_ = 5 := (by simpa using hj_); clear hj_; refine s_op rfl ?_; (simp (disch := first | decide | omega | (simp only [nx]; first | done | omega)) only [go_sem]; (repeat with_reducible refine aI ?_)))
      refine grM_app hS hG hol fun c' zs' hG' hnx => ?_
      (refine s_take 8 rfl (by kernel_rfl) (by kernel_rfl) (v := ?v44) (fun S' hz => dquietR_of ?h44) <| s_take 9 rfl (by kernel_rfl) (by kernel_rfl) (v := ?v45) (fun S' hz => dquietR_of ?h45) <| ?k45; (case h44 | h45 => ((simp (disch := first | decide | omega | (simp only [nx]; first | done | omega)) only [go_sem, q0, q1, l2, l4, hz]; (repeat with_reducible refine aI ?_)); first | done | exact rfl | omega)))
      (refine s_done (by kernel_rfl) ?_; (simp (disch := first | decide | omega | (simp only [nx]; first | done | omega)) only [go_sem, q0, q1, l2, l4]; (repeat with_reducible refine aI ?_)))
      refine ⟨by omega, _, fun _ _ h => h, a', b'.drop 1, out ++ [b'[0]], o0, .no, by rw [List.length_drop]; omega, ?_, by (first | (simp (disch := first | decide | omega | (simp only [nx]; first | done | omega)) only [go_sem, q0]; first | done | rfl) | rfl), by (first | (simp (disch := first | decide | omega | (simp only [nx]; first | done | omega)) only [go_sem]; first | done | rfl) | rfl), ?_⟩
      · rw [hm, List.append_assoc, ea, mergeM_nill, mergeM_nill]
        conv => lhs; rw [eb]
        rfl
      · simp (disch := first | decide | omega | (simp only [nx]; first | done | omega)) only [go_sem]
        exact hG'
    · have b2 : decide ((0 : Int) < (b'.length : Int)) = false := decide_eq_false (by omega)
      (simp (disch := first | decide | omega | (simp only [nx]; first | done | omega)) only [go_sem, q0, q1, b1, b2]; (repeat with_reducible refine aI ?_))
      have eb : b' = [] := List.eq_nil_of_length_eq_zero (by omega)
      have hmm : mergeM a b = out := by rw [hm, ea, eb, mergeM_nill, List.append_nil]
      rw [hmm]
      obtain ⟨S1, k, c, zs, t1, t2, t3, t4, t5, t6⟩ := hG.own.win
      refine ⟨S1, _, t1, k, c, zs, by rw [List.length_map], ?_, ⟨t3, t4, t5⟩, ?_⟩
      · rcases t6 with ⟨o, n, c', e⟩ | e
        · exact hG.lo _ _ _ _ e
        · rw [e]; exact hG.sub.next
      · rcases t2 with e | e
        · rw [e]; exact hG.sub
        · rw [e]; exact hG.sub.add hS _
end
end Go.Proofs.Ytgadflonnnkjcaa

namespace Go.Proofs.Ytgadflonnnkjcaa
open Go.RowKit
theorem lineM_le {l : List DMk} {n : Nat} (h : l.length ≤ n) : (lineM l).length ≤ n := Nat.le_trans (lineM_len l) h
section
set_option maxRecDepth 200000
set_option maxHeartbeats 4000000
end
end Go.Proofs.Ytgadflonnnkjcaa

namespace Go.Proofs.Ytgadflonnnkjcaa
open Go.RowKit
mutual
def D.free : D → Prop
  | .v _ => True
  | .agg cs => freeL cs
  | .tup cs => freeL cs
  | .fn _ fs cs => freeL fs ∧ freeL cs
  | .ifc _ d => D.free d
  | .loc _ _ => True
  | .rd _ _ => False
  | .sl _ es => es = []
  | .win _ _ _ _ => True
def freeL : List D → Prop
  | [] => True
  | d :: ds => D.free d ∧ freeL ds
end
theorem freeL_iff : ∀ {l : List D}, freeL l ↔ ∀ d ∈ l, d.free
  | [] => by simp [freeL]
  | d :: l => by simp [freeL, freeL_iff (l := l)]
section
variable {P : Program} {w : World} {η : Names} {X X' : Nat → Nat → Prop}
mutual
theorem Rep.free : ∀ {d : D} {y : Value}, d.free → Rep P w η X d y → Rep P w η X' d y
  | .v x, y, _, h => by simp only [Rep] at *; exact h
  | .agg cs, y, hd, h => by
    simp only [Rep, D.free] at *
    obtain ⟨vs, h1, h2, h3⟩ := h
    exact ⟨vs, h1, RepL.free hd h2, h3⟩
  | .tup cs, y, hd, h => by
    simp only [Rep, D.free] at *
    obtain ⟨vs, h1, h2⟩ := h
    exact ⟨vs, h1, RepL.free hd h2⟩
  | .fn f fs cs, y, hd, h => by
    simp only [Rep, D.free] at *
    obtain ⟨us, vs, h1, h2, h3⟩ := h
    exact ⟨us, vs, h1, RepL.free hd.1 h2, RepL.free hd.2 h3⟩
  | .ifc t d, y, hd, h => by
    simp only [Rep, D.free] at *
    obtain ⟨x, h1, h2⟩ := h
    exact ⟨x, h1, Rep.free hd h2⟩
  | .loc k off, y, hd, h => by simp only [Rep] at *; exact h
  | .rd cs off, y, hd, h => by simp only [D.free] at hd
  | .sl own es, y, hd, h => by
    simp only [D.free] at hd
    subst hd
    simp only [Rep] at *
    obtain ⟨A, c, h1, h2, h3, h4, h5⟩ := h
    exact ⟨A, c, h1, h2, h3, h4, fun h0 => absurd h0 (by simp)⟩
  | .win k off n c, y, hd, h => by simp only [Rep] at *; exact h
theorem RepL.free : ∀ {l : List D} {vs : List Value}, freeL l → RepL P w η X l vs → RepL P w η X' l vs
  | [], vs, _, h => by simp only [RepL] at *; exact h
  | d :: ds, vs, hd, h => by
    simp only [RepL, freeL] at *
    obtain ⟨x, xs, h1, h2, h3⟩ := h
    exact ⟨x, xs, h1, Rep.free hd.1 h2, RepL.free hd.2 h3⟩
end
end
theorem dcalls_sub {P : Program} {g : FuncId} {args : List D} {S : St} {K K' : D → St → Prop} (h : DCalls P g args S K) (hk : ∀ d T, K d T → ∃ T' : St, T'.next = T.next ∧ (∀ j o, T'.ob j = some o → T.ob j = some o) ∧ K' d T') : DCalls P g args S K' := fun base η w vs hM hr => by
  rcases h base η w vs hM hr with ⟨h1, h2⟩ | ⟨d, T, η', v, w', h1, h2, h3, h4⟩
  · refine .inl ⟨h1, h2.mono fun e w' ⟨d, T, η', v, k1, k2, k3, k4⟩ => ?_⟩
    obtain ⟨T', t1, t2, t3⟩ := hk d T k1
    have G := goes_sub k4.mem t1 t2
    exact ⟨d, T', η', v, t3, k2, G.rep k3, k4.trans G⟩
  · obtain ⟨T', t1, t2, t3⟩ := hk d T h2
    have G := goes_sub h4.mem t1 t2
    exact .inr ⟨d, T', η', v, w', h1, t3, G.rep h3, h4.trans G⟩
theorem cells_ext {w w' : World} {b : Nat} {cur cur' : Array Value} {t : TypeId} {fr : Nat × Nat} (h : w.heap[b]? = some (.cells cur t fr)) (h' : w'.heap[b]? = some (.cells cur' t fr)) (hs : cur'.size = cur.size) (hc : ∀ i, w'.cell? ⟨b, i, none⟩ = w.cell? ⟨b, i, none⟩) : cur' = cur := by
  apply Array.ext_getElem?
  intro i
  have := hc i
  simpa [World.cell?, h, h'] using this
theorem goes_ice {P : Program} {base : Nat} {S T : St} {η η' : Names} {w w' : World} (hM : Mem P base S η w) {k : Nat} {o : Ob} (hk : S.ob k = some o) {kb : Option Nat} (hkb : η k = some kb) (G : Goes P base (S.drop k) η w T η' w') (hn : S.next ≤ T.next) (hT : T.ob k = none) (hf : ∀ j t cs, T.ob j = some (.box t cs) → freeL cs) :
    Goes P base S η w (T.set k o) η' w' := by
  have hlt : k < S.next := by
    rcases Nat.lt_or_ge k S.next with h | h
    · exact h
    · rw [hM.fresh k h] at hk; cases hk
  have hMT := G.mem
  have fixD : ∀ b i, Fix P S η b i → Fix P (S.drop k) η b i := fun b i hx j o' hj ho => by
    simp only [St.drop] at ho
    split at ho
    · cases ho
    · exact hx j o' hj ho
  have hfx : ∀ b, η k = some (some b) → ∀ i, Fix P (S.drop k) η b i := fun b hb i j' o'' hj' ho' => by
    simp only [St.drop] at ho'
    split at ho'
    · cases ho'
    · rename_i hne
      exact absurd (hM.inj j' k b hj' hb (by rw [ho']; rfl) (by rw [hk]; rfl)) hne
  have aloneB : ∀ b, η k = some (some b) → ∀ j o', η' j = some (some b) → T.ob j = some o' → False := fun b hb j o' hj ho => by
    have hb2 := (hM.in_ k b hb).2
    cases o' with
    | box t cs => exact (G.keep.fix b 0 hb2 (hfx b hb 0)).1 j _ hj ho
    | row e n =>
      have := (G.keep.fix b (n * szOf P e) hb2 (hfx b hb _)).1 j _ hj ho
      simp only at this
      omega
  have hob : ∀ j o', (T.set k o).ob j = some o' → (j = k ∧ o' = o) ∨ (j ≠ k ∧ T.ob j = some o') := fun j o' hj => by
    simp only [St.set] at hj
    split at hj
    · rename_i e; injection hj with hj; exact .inl ⟨e, hj.symm⟩
    · rename_i e; exact .inr ⟨e, hj⟩
  have eta : ∀ j b, η j = some b → η' j = some b := fun j b h => G.keep.eta j b trivial h
  have hkb' := eta k kb hkb
  have K : Keep (fun _ => True) w η (Fix P S η) w' η' (Fix P (T.set k o) η') := ⟨G.keep.size, fun b i hb hx => by
    obtain ⟨x1, x2⟩ := G.keep.fix b i hb (fixD b i hx)
    refine ⟨fun j o' hj ho => ?_, x2⟩
    rcases hob j o' ho with ⟨rfl, rfl⟩ | ⟨_, ho⟩
    · rw [hkb'] at hj
      injection hj with hj
      subst hj
      exact hx j o' hkb hk
    · exact x1 j o' hj ho, fun j b _ h => eta j b h, G.keep.shp⟩
  have same : ∀ b (cur : Array Value) (t : TypeId), η k = some (some b) → w.heap[b]? = some (.cells cur t (0, 0)) → w'.heap[b]? = some (.cells cur t (0, 0)) := fun b cur t hb hc => by
    obtain ⟨cur', h1, h2⟩ := G.keep.shp b cur t hc
    have := cells_ext hc h1 h2 fun i => (G.keep.fix b i (hM.in_ k b hb).2 (hfx b hb i)).2
    rw [this] at h1
    exact h1
  refine ⟨⟨hMT.base_, hMT.dead, fun j hj => ?_, fun j t cs hj => ?_, fun j j' b h1 h2 h3 h4 => ?_, hMT.in_, fun j t cs b h1 h2 => ?_, fun j e n b h1 h2 => ?_, hMT.glob⟩, K, G.below, G.drawn⟩
  · have hj' : T.next ≤ j := hj
    simp only [St.set]
    rw [if_neg (by omega)]
    exact hMT.fresh j hj'
  · rcases hob j _ hj with ⟨rfl, h⟩ | ⟨_, hj⟩
    · obtain ⟨b, hb⟩ := hM.live j t cs (by rw [hk, h])
      exact ⟨b, eta j _ hb⟩
    · exact hMT.live j t cs hj
  · obtain ⟨o1, h3⟩ := Option.isSome_iff_exists.1 h3
    obtain ⟨o2, h4⟩ := Option.isSome_iff_exists.1 h4
    have hB : ∀ b', η' k = some (some b') → η k = some (some b') := fun b' h => by rw [hkb'] at h; rw [hkb]; exact h
    rcases hob j _ h3 with ⟨rfl, _⟩ | ⟨n1, h5⟩
    · rcases hob j' _ h4 with ⟨rfl, _⟩ | ⟨_, h6⟩
      · rfl
      · exact (aloneB b (hB b h1) j' _ h2 h6).elim
    · rcases hob j' _ h4 with ⟨rfl, _⟩ | ⟨_, h6⟩
      · exact (aloneB b (hB b h2) j _ h1 h5).elim
      · exact hMT.inj j j' b h1 h2 (by rw [h5]; rfl) (by rw [h6]; rfl)
  · rcases hob j _ h1 with ⟨rfl, h⟩ | ⟨_, h1⟩
    · have hb : η j = some (some b) := by rw [hkb'] at h2; rw [hkb]; exact h2
      obtain ⟨vs, v1, v2, v3⟩ := hM.box j t cs b (by rw [hk, h]) hb
      exact ⟨vs, same b _ t hb v1, RepL.keep K (allL_true _) v2, v3⟩
    · obtain ⟨vs, v1, v2, v3⟩ := hMT.box j t cs b h1 h2
      exact ⟨vs, v1, RepL.free (hf j t cs h1) v2, v3⟩
  · rcases hob j _ h1 with ⟨rfl, h⟩ | ⟨_, h1⟩
    · have hb : η j = some (some b) := by rw [hkb'] at h2; rw [hkb]; exact h2
      obtain ⟨cur, v1, v2⟩ := hM.row j e n b (by rw [hk, h]) hb
      exact ⟨cur, same b _ e hb v1, v2⟩
    · exact hMT.row j e n b h1 h2
theorem dcalls_ice {P : Program} {g : FuncId} {args args' : List D} {S : St} {K : D → St → Prop} {k : Nat} {o : Ob} (hk : S.ob k = some o) (hin : ∃ d ∈ args, ∃ off n c, d = .win k off n c)
    (ha : ∀ base η w vs, Mem P base S η w → RepL P w η (Fix P S η) args vs → RepL P w η (Fix P (S.drop k) η) args' vs)
    (h : DCalls P g args' (S.drop k) fun d T => d.free ∧ S.next ≤ T.next ∧ T.ob k = none ∧ (∀ j t cs, T.ob j = some (.box t cs) → freeL cs) ∧ K d (T.set k o)) : DCalls P g args S K := fun base η w vs hM hr => by
  have hkn : ∃ kb, η k = some kb := by
    obtain ⟨d, hd, off, n, c, rfl⟩ := hin
    have := allL_iff.1 (RepL.names hr) _ hd
    simp only [D.all] at this
    exact Option.isSome_iff_exists.1 this
  obtain ⟨kb, hkb⟩ := hkn
  have GD := goes_drop hM k
  rcases h base η w vs GD.mem (ha base η w vs hM hr) with ⟨h1, h2⟩ | ⟨d, T, η', v, w', h1, ⟨q1, q2, q3, q4, q5⟩, h3, h4⟩
  · refine .inl ⟨h1, h2.mono fun e w' ⟨d, T, η', v, ⟨q1, q2, q3, q4, q5⟩, k2, k3, k4⟩ => ?_⟩
    exact ⟨d, _, η', v, q5, k2, Rep.free q1 k3, goes_ice hM hk hkb k4 q2 q3 q4⟩
  · exact .inr ⟨d, _, η', v, w', h1, q5, Rep.free q1 h3, goes_ice hM hk hkb h4 q2 q3 q4⟩
theorem setRow_same {w : World} {b : Nat} {cur : Array Value} {t : TypeId} {fr : Nat × Nat} (h : w.heap[b]? = some (.cells cur t fr)) : w.setRow b cur = w := by
  cases w with
  | mk heap =>
    simp only [World.setRow]
    congr 1
    apply Array.ext_getElem?
    intro k
    simp only [Array.getElem?_modify]
    by_cases hk : b = k
    · subst hk
      have h' : heap[b]? = some (.cells cur t fr) := h
      simp [h']
    · simp [hk]
theorem goes_plain {P : Program} {base : Nat} {S : St} {η : Names} {w : World} (h : Mem P base S η w) {k : Nat} {t : TypeId} {A zs : List D} (hk : S.ob k = some (.box t (A ++ zs))) : ∃ us : List Value, us.length = zs.length ∧ Goes P base S η w (S.set k (.box t (A ++ us.map D.v))) η w := by
  obtain ⟨b, hb⟩ := h.live k t _ hk
  obtain ⟨vs, g1, g2, g3⟩ := h.box k t _ b hk hb
  have hl := g2.length
  rw [List.length_append] at hl
  have hA := RepL.take A.length g2
  rw [List.take_left] at hA
  have plain : ∀ us : List Value, RepL P w η (Fix P S η) (us.map D.v) us := fun us => by
    induction us with
    | nil => simp only [List.map_nil, RepL]
    | cons u us ih => simp only [List.map_cons, RepL, Rep]; exact ⟨u, us, rfl, rfl, ih⟩
  refine ⟨vs.drop A.length, by rw [List.length_drop]; omega, ?_⟩
  have G := goes_set h (cs' := A ++ (vs.drop A.length).map D.v) (vs' := vs) hk hb (by simp only [List.length_append, List.length_map, List.length_drop]; omega) (by
    have := RepL.append hA (plain (vs.drop A.length))
    rwa [List.take_append_drop] at this) g3
  rwa [setRow_same g1] at G
theorem dcalls_box {P : Program} {g : FuncId} {args : List D} {S : St} {K K' : D → St → Prop} (h : DCalls P g args S K) (hk : ∀ d T, K d T → K' d T ∨ ∃ k t A zs, T.ob k = some (.box t (A ++ zs)) ∧ ∀ us : List Value, us.length = zs.length → K' d (T.set k (.box t (A ++ us.map D.v)))) : DCalls P g args S K' := fun base η w vs hM hr => by
  rcases h base η w vs hM hr with ⟨h1, h2⟩ | ⟨d, T, η', v, w', h1, h2, h3, h4⟩
  · refine .inl ⟨h1, h2.mono fun e w' ⟨d, T, η', v, k1, k2, k3, k4⟩ => ?_⟩
    rcases hk d T k1 with k1 | ⟨k, t, A, zs, q1, q2⟩
    · exact ⟨d, T, η', v, k1, k2, k3, k4⟩
    · obtain ⟨us, u1, G⟩ := goes_plain k4.mem q1
      exact ⟨d, _, η', v, q2 us u1, k2, G.rep k3, k4.trans G⟩
  · rcases hk d T h2 with h2 | ⟨k, t, A, zs, q1, q2⟩
    · exact .inr ⟨d, T, η', v, w', h1, h2, h3, h4⟩
    · obtain ⟨us, u1, G⟩ := goes_plain h4.mem q1
      exact .inr ⟨d, _, η', v, w', h1, q2 us u1, G.rep h3, h4.trans G⟩
theorem dpure_nil {P : Program} {g : FuncId} {args : List D} {x : Value} (hc : allL (fun _ => False) args) (h : DAt P g args St.nil (.v x)) : DPure P g args (.v x) := fun S base η w vs hM hr => by
  have hg : GlobOk w.heap.size w := fun p hp => ⟨Nat.lt_of_lt_of_le (hM.glob p hp).1 hM.base_, (hM.glob p hp).2⟩
  have K : Keep (fun _ => False) w η (Fix P S η) w (fun _ => none) (Fix P St.nil fun _ => none) := ⟨Nat.le_refl _, fun b i _ _ => ⟨fix_nil b i, rfl⟩, fun _ _ h => h.elim, fun _ cur _ h => ⟨cur, h, rfl⟩⟩
  rcases h w.heap.size _ w vs (mem_nil w hg) (RepL.keep K hc hr) with ⟨h1, k⟩ | ⟨d, S', η', u, w', k, ⟨rfl, _⟩, h3, h4⟩
  · refine .inl ⟨h1, k.mono fun _ _ ⟨d, S', η', u, ⟨h1, _⟩, h2, h3, h4⟩ => ?_⟩
    subst h1
    simp only [Rep] at h3
    subst h3
    exact ⟨.v _, S, η, _, ⟨rfl, rfl⟩, h2, by simp only [Rep], goes_below hM h4.below h4.drawn⟩
  · simp only [Rep] at h3
    subst h3
    exact .inr ⟨.v _, S, η, _, w', k, ⟨rfl, rfl⟩, by simp only [Rep], goes_below hM h4.below h4.drawn⟩
end Go.Proofs.Ytgadflonnnkjcaa

namespace Go.Proofs.Ytgadflonnnkjcaa
open Go.RowKit
def putOb (S : St) (n k : Nat) (o : Ob) : St := ⟨n, fun j => if j = k then some o else S.ob j⟩
theorem putOb_hit (S : St) (n k : Nat) (o : Ob) : (putOb S n k o).ob k = some o := by simp [putOb]
theorem putOb_old {S : St} {n k j : Nat} {o : Ob} (h : j ≠ k) : (putOb S n k o).ob j = S.ob j := by simp [putOb, h]
theorem putOb_wf {S : St} (hS : S.WF) {n k : Nat} {o : Ob} (h1 : S.next ≤ n) (h2 : k < n) : (putOb S n k o).WF := fun j hj => by
  have hj' : n ≤ j := hj
  rw [putOb_old (by omega)]
  exact hS j (by omega)
theorem free_marks (l : List DMk) (us : List Value) : freeL (flat (l.map encM) ++ us.map D.v) := freeL_iff.2 fun d hd => by
  rcases List.mem_append.1 hd with hd | hd
  · simp only [flat, List.mem_flatMap] at hd
    obtain ⟨e, he, hd⟩ := hd
    obtain ⟨m, _, rfl⟩ := List.mem_map.1 he
    rcases List.mem_cons.1 hd with rfl | hd
    · simp [D.free]
    · obtain ⟨b, _, rfl⟩ := List.mem_map.1 hd
      simp [bD, D.free]
  · obtain ⟨u, _, rfl⟩ := List.mem_map.1 hd
    simp [D.free]
theorem own_trim {S : St} (hS : S.WF) {g : FuncId} {args : List D} {l : List DMk} {F : Nat → Nat → D} (h : DCalls Try.prog g args S fun d T => ∃ k c zs, d = F k c ∧ S.next ≤ k ∧ OwnM T k c zs l ∧ S.Sub T) :
    DCalls Try.prog g args S fun d T => ∃ k c us n, d = F k c ∧ S.next ≤ k ∧ k < n ∧ l.length ≤ c ∧ (flat (l.map encM) ++ List.map D.v us).length = c * 33 ∧ T = putOb S n k (ownOb 26 (l.map encM) (us.map D.v) c) := by
  have h1 : DCalls Try.prog g args S fun d T => ∃ k c zs n, d = F k c ∧ S.next ≤ k ∧ k < n ∧ l.length ≤ c ∧ (flat (l.map encM) ++ zs).length = c * 33 ∧ T = putOb S n k (ownOb 26 (l.map encM) zs c) :=
    dcalls_sub h fun d T ⟨k, c, zs, e, hk, ho, hs⟩ => ⟨putOb S T.next k (ownOb 26 (l.map encM) zs c), rfl, fun j o hj => by
      by_cases e : j = k
      · subst e
        rw [putOb_hit] at hj
        rw [ho.ob, ← hj]
      · rw [putOb_old e] at hj
        exact hs.ob j o hj, k, c, zs, T.next, e, hk, ho.lt, ho.le, ho.ln, rfl⟩
  refine dcalls_box h1 fun d T ⟨k, c, zs, n, e, h1, h2, h3, h4, h5⟩ => ?_
  rcases Nat.eq_zero_or_pos c with h0 | h0
  · subst h0
    have hz : zs = [] := List.eq_nil_of_length_eq_zero (by rw [List.length_append] at h4; omega)
    exact .inl ⟨k, 0, [], n, e, h1, h2, h3, by rw [hz] at h4; simpa using h4, by rw [h5, hz]; rfl⟩
  · refine .inr ⟨k, 26, flat (l.map encM), zs, by rw [h5, putOb_hit, ownOb_box h0], fun us hu => ⟨k, c, us, n, e, h1, h2, h3, by rw [List.length_append, List.length_map] at *; omega, ?_⟩⟩
    rw [h5]
    simp only [putOb, St.set, ownOb_box h0]
    congr 1
    funext j
    by_cases e : j = k
    · simp [e]
    · simp [e]
def decM : Nat → List DMk → List DMk
  | 0, l => l
  | i + 1, l => (decM i l).modify i fun m => (IntKind.i64.wrap (m.1 - 1), m.2)
theorem decM_len (i : Nat) (l : List DMk) : (decM i l).length = l.length := by
  induction i with
  | zero => rfl
  | succ i ih => rw [decM, List.length_modify, ih]
theorem depth_at {l : List DMk} {zs : List D} {i : Nat} (hi : i < l.length) : (flat (l.map encM) ++ zs).getD (i * 33) undefD = .v (.int .i64 l[i].1) := by
  have h := mk_at (zs := zs) hi
  have h2 := congrArg (fun x => x[0]?) h
  simp only [List.getElem?_take, List.getElem?_drop, Nat.add_zero] at h2
  rw [List.getD_eq_getElem?_getD]
  simp only [show (0 : Nat) < 33 by omega, if_true] at h2
  rw [h2]
  rfl
theorem depth_put {l : List DMk} {zs : List D} {i : Nat} (hi : i < l.length) : (flat (l.map encM) ++ zs).take (i * 33) ++ [.v (.int .i64 (IntKind.i64.wrap (l[i].1 - 1)))] ++ (flat (l.map encM) ++ zs).drop (i * 33 + 1) = flat ((l.modify i fun m => (IntKind.i64.wrap (m.1 - 1), m.2)).map encM) ++ zs := by
  have hf := flatMk_len (l.take i)
  rw [List.length_take, Nat.min_eq_left (by omega)] at hf
  have e : l = l.take i ++ l[i] :: l.drop (i + 1) := by rw [← List.drop_eq_getElem_cons hi, List.take_append_drop]
  have e2 : l.modify i (fun m => (IntKind.i64.wrap (m.1 - 1), m.2)) = l.take i ++ (IntKind.i64.wrap (l[i].1 - 1), l[i].2) :: l.drop (i + 1) := by
    rw [List.modify_eq_take_cons_drop hi]
  have e3 : flat (l.map encM) ++ zs = flat ((l.take i).map encM) ++ (.v (.int .i64 l[i].1) :: (l[i].2.1.map bD ++ (flat ((l.drop (i + 1)).map encM) ++ zs))) := by
    conv => lhs; rw [e]
    simp only [List.map_append, List.map_cons, flat_append, flat_cons, cells_encM, List.append_assoc, mkCs, List.cons_append]
  rw [e2, e3, ← hf, List.take_left, ← List.drop_drop, List.drop_left]
  simp only [List.map_append, List.map_cons, flat_append, flat_cons, cells_encM, List.append_assoc, mkCs, List.cons_append, List.drop_succ_cons, List.drop_zero, List.nil_append]
section
set_option maxRecDepth 200000
set_option maxHeartbeats 4000000
theorem lineOwn_at (l : List DMk) (m : DMk) : DAt Try.prog 7 [.sl .no (l.map encM), encM m] St.nil (.v (.bool true)) := by
  refine dat_of_dwpL mixed Try.func7 rfl (fun _ _ => by kernel_rfl) (rs := [.tmp 4]) rfl (by kernel_rfl) (by trivial) (fun hS => ?_)
  by_cases h : l.length > 60
  · have b1 : decide ((l.length : Int) > 60) = true := decide_eq_true (by omega)
    (simp (disch := first | decide | omega | (simp only [nx]; first | done | omega)) only [go_sem, b1]; (repeat with_reducible refine aI ?_))
    refine DCalls.of_pure awake_d ?_
    (simp (disch := first | decide | omega | (simp only [nx]; first | done | omega)) only [go_sem]; (repeat with_reducible refine aI ?_))
    refine ⟨?_, (by (repeat' first | assumption | exact St.Sub.refl _ | exact RowOk.sub (by assumption) (by assumption) | refine St.Sub.trans ?_ (RowOk.sub (by assumption) (by assumption)) | refine St.Sub.add ?_ ?_ _ | refine St.Sub.set ?_ ?_ ?_ _ | refine St.Sub.keep ?_ ?_ | refine St.WF.leave ?_ _ | refine St.WF.add ?_ _ | refine St.WF.set ?_ ?_ _ | refine St.WF.grow ?_ _ _ _ | refine St.WF.keep ?_ ?_ | (first | omega | (simp only [RowOk.lo, nx]; first | done | omega))))⟩
    rfl
  have b1 : decide ((l.length : Int) > 60) = false := decide_eq_false (by omega)
  have hl : l.length ≤ 1000000 := by omega
  have hl2 := lineM_le hl
  have hasc := asc_lineM l
  (simp (disch := first | decide | omega | (simp only [nx]; first | done | omega)) only [go_sem, b1]; (repeat with_reducible refine aI ?_))
  refine DCalls.of_pure (refSort_d .no l hl) ?_
  (simp (disch := first | decide | omega | (simp only [nx]; first | done | omega)) only [go_sem]; (repeat with_reducible refine aI ?_))
  refine app_more elMk zeMk (.inl rfl) (fun _ h => by cases h) (by rw [szMk]; exact wMk _) (by simp only [List.length_nil, List.length_map]; omega) (by simp only [List.length_nil, List.length_map, byMk]; omega) ?_
  have hne : (St.nil.next = St.nil.next + 1) = False := eq_false (by omega)
  (simp (disch := first | decide | omega | (simp only [nx]; first | done | omega)) only [go_sem, List.nil_append, hne]; (repeat with_reducible refine aI ?_))
  have w1 : ((St.nil.add (.box 26 (mkCs m))).grow .full 26 (lineM l).length).WF := (by (repeat' first | assumption | refine St.WF.leave ?_ _ | refine St.WF.add ?_ _ | refine St.WF.set ?_ ?_ _ | refine St.WF.grow ?_ _ _ _ | refine St.WF.keep ?_ ?_ | (first | omega | (simp only [RowOk.lo, nx]; first | done | omega))))
  have f1 : ∀ j t cs, ((St.nil.add (.box 26 (mkCs m))).grow .full 26 (lineM l).length).ob j = some (.box t cs) → freeL cs := fun j t cs hj => by
    have e : ((St.nil.add (.box 26 (mkCs m))).grow .full 26 (lineM l).length).ob j = if j = 1 then some (.row 26 (lineM l).length) else if j = 0 then some (.box 26 (mkCs m)) else none := rfl
    rw [e] at hj
    by_cases e1 : j = 1
    · rw [if_pos e1] at hj; cases hj
    · rw [if_neg e1] at hj
      by_cases e2 : j = 0
      · rw [if_pos e2] at hj
        injection hj with hj
        injection hj with _ hj
        subst hj
        have := free_marks [m] []
        simpa [flat, encM, D.cells] using this
      · rw [if_neg e2] at hj; cases hj
  generalize ((St.nil.add (.box 26 (mkCs m))).grow .full 26 (lineM l).length) = S1 at *
  refine (own_trim w1 (F := fun k c => .tup [.win k 0 (insM (lineM l) m).length c, .v (.int .i64 (ahead (lineM l) m : Nat)), .v (.bool (freshM (lineM l) m))]) (linsert_w .no (lineM l) m hasc hl2)).mono ?_
  rintro d T ⟨k, c, us, n, rfl, k1, k2, k3, k4, rfl⟩
  (simp (disch := first | decide | omega | (simp only [nx]; first | done | omega)) only [go_sem]; (repeat with_reducible refine aI ?_))
  have hil := insM_len (lineM l) m
  have hll := lineM_len l
  generalize hI : insM (lineM l) m = I at *
  have w2 : (putOb S1 n k (ownOb 26 (I.map encM) (us.map D.v) c)).WF := putOb_wf w1 (by omega) k2
  have hkI : (I.map encM) = [] ∨ (putOb S1 n k (ownOb 26 (I.map encM) (us.map D.v) c)).ob k = some (.box 26 (flat (I.map encM) ++ us.map D.v)) := by
    rcases Nat.eq_zero_or_pos c with h0 | h0
    · left
      have : I = [] := List.eq_nil_of_length_eq_zero (by omega)
      rw [this]; rfl
    · right
      rw [putOb_hit, ownOb_box h0]
  refine dcalls_ice (k := k) (o := ownOb 26 (I.map encM) (us.map D.v) c) (args' := [.sl .no ((lineM l).map encM), .sl .no (I.map encM)]) (putOb_hit _ _ _ _) ⟨_, List.mem_cons_of_mem _ (List.mem_cons_self ..), _, _, _, rfl⟩ (fun base η w vs hM hr => ?_) ?_
  · simp only [RepL] at hr ⊢
    obtain ⟨x, xs, rfl, hx, y, ys, rfl, hy, rfl⟩ := hr
    refine ⟨x, _, rfl, (goes_drop hM k).rep hx, y, _, rfl, ?_, rfl⟩
    have := Rep.thaw hM hkI (by rw [szMk]; omega) (by rw [szMk]; exact wMk I) hy
    simpa only [D.thaw, List.length_map, Nat.beq_refl, Bool.and_self, cond_true] using this
  have wd := w2.drop k
  refine DCalls.mono (own_trim wd (F := fun k c => .win k 0 (mergeM (lineM l) I).length c) (merge_w .no .no (lineM l) I hl2 (by omega))) ?_
  rintro d T ⟨k', c', us', n', rfl, j1, j2, j3, j4, rfl⟩
  have j1' : n ≤ k' := j1
  have hkk : k ≠ k' := by omega
  refine ⟨by simp [D.free], by show n ≤ n'; omega, ?_, fun j t cs hj => ?_, ?_⟩
  · rw [putOb_old hkk]; simp [St.drop]
  · by_cases e : j = k'
    · subst e
      rw [putOb_hit] at hj
      rcases Nat.eq_zero_or_pos c' with h0 | h0
      · subst h0; simp [ownOb] at hj
      · rw [ownOb_box h0] at hj
        injection hj with hj
        injection hj with _ hj
        subst hj
        exact free_marks _ _
    · rw [putOb_old e] at hj
      simp only [St.drop] at hj
      split at hj
      · cases hj
      · rename_i e2
        rw [putOb_old e2] at hj
        exact f1 j t cs hj
  have hk1 : ((putOb ((putOb S1 n k (ownOb 26 (I.map encM) (us.map D.v) c)).drop k) n' k' (ownOb 26 ((mergeM (lineM l) I).map encM) (us'.map D.v) c')).set k (ownOb 26 (I.map encM) (us.map D.v) c)).ob k = some (ownOb 26 ((decM 0 I).map encM) (us.map D.v) c) := by simp [St.set, decM]
  have hk2 : ((putOb ((putOb S1 n k (ownOb 26 (I.map encM) (us.map D.v) c)).drop k) n' k' (ownOb 26 ((mergeM (lineM l) I).map encM) (us'.map D.v) c')).set k (ownOb 26 (I.map encM) (us.map D.v) c)).ob k' = some (ownOb 26 ((decM 0 (mergeM (lineM l) I)).map encM) (us'.map D.v) c') := by simp [St.set, decM, hkk.symm, putOb]
  have w3 : ((putOb ((putOb S1 n k (ownOb 26 (I.map encM) (us.map D.v) c)).drop k) n' k' (ownOb 26 ((mergeM (lineM l) I).map encM) (us'.map D.v) c')).set k (ownOb 26 (I.map encM) (us.map D.v) c)).WF := (putOb_wf wd (by show n ≤ n'; omega) (by omega)).set (by show k < n'; omega) _
  have hn2 : ((putOb ((putOb S1 n k (ownOb 26 (I.map encM) (us.map D.v) c)).drop k) n' k' (ownOb 26 ((mergeM (lineM l) I).map encM) (us'.map D.v) c')).set k (ownOb 26 (I.map encM) (us.map D.v) c)).next = n' := rfl
  have hml := mergeM_len (lineM l) I
  generalize mergeM (lineM l) I = J at *
  generalize ((putOb ((putOb S1 n k (ownOb 26 (I.map encM) (us.map D.v) c)).drop k) n' k' (ownOb 26 (J.map encM) (us'.map D.v) c')).set k (ownOb 26 (I.map encM) (us.map D.v) c)) = T2 at *
  (simp (disch := first | decide | omega | (simp only [nx]; first | done | omega)) only [go_sem]; (repeat with_reducible refine aI ?_))
  (refine dloop_var (fun t => List.contains [11, 32, 33, 34, 35, 36, 37, 38, 39, 40, 41, 42, 43, 44, 45, 46, 47] t) (by kernel_rfl) ?_ (I.length) (k) (fun i => ownOb 26 ((decM i I).map encM) (us.map D.v) c) ?_ (fun i f => i ≤ I.length ∧ f 11 = .v (.int .i64 (i : Nat))) ?_ ?_; (exact (by (repeat' first | assumption | refine St.WF.leave ?_ _ | refine St.WF.add ?_ _ | refine St.WF.set ?_ ?_ _ | refine St.WF.grow ?_ _ _ _ | refine St.WF.keep ?_ ?_ | (first | omega | (simp only [RowOk.lo, nx]; first | done | omega))))); (exact (by (first | (first | (simp (disch := first | decide | omega | (simp only [nx]; first | done | omega)) only [go_sem]; first | done | rfl) | rfl) | (first | (simp (disch := first | decide | omega | (simp only [nx]; first | done | omega)) only [go_sem, hk1]; first | done | rfl) | rfl)))); (exact ⟨(by omega), (by (first | (simp (disch := first | decide | omega | (simp only [nx]; first | done | omega)) only [go_sem, hk1]; first | done | rfl) | rfl))⟩); intro i g tn hn hT hg hI; obtain ⟨le, q11⟩ := hI; have q4 := hg 4 rfl; have q5 := hg 5 rfl; have q6 := hg 6 rfl; have q7 := hg 7 rfl; have q10 := hg 10 rfl; simp (disch := first | decide | omega | (simp only [nx]; first | done | omega)) only [go_sem, hk1] at q4 q5 q6 q7 q10; clear hg; have hn' := hn; try simp only [add_next, set_next, grow_next, leave_next, drop_next] at hn')
  by_cases hlt : i < I.length
  · have c1 : decide ((i : Int) < (I.length : Int)) = true := decide_eq_true (by omega)
    have hc : 0 < c := by omega
    have w1 : IntKind.i64.wrap ((i : Int) + 1) = ((i + 1 : Nat) : Int) := IntWalk.i64_in _ ⟨by omega, by omega⟩
    have hdl := decM_len i I
    have hat := depth_at (l := decM i I) (zs := us.map D.v) (i := i) (by omega)
    have hst := depth_put (l := decM i I) (zs := us.map D.v) (i := i) (by omega)
    have hln : (flat ((decM i I).map encM) ++ us.map D.v).length = c * 33 := by rw [List.length_append, flatMk_len] at k4 ⊢; rw [hdl]; exact k4
    (simp (disch := first | decide | omega | (simp only [nx]; first | done | omega)) only [go_sem, q7, q11, c1, hc, ownOb_box, Nat.zero_add, Nat.add_zero, hat, hln]; (repeat with_reducible refine aI ?_))
    refine ⟨by omega, ?_, by omega, by (first | (simp (disch := first | decide | omega | (simp only [nx]; first | done | omega)) only [go_sem, w1]; first | done | rfl) | rfl)⟩
    show (St.set _ k (Ob.box 26 (flat ((decM (i + 1) I).map encM) ++ us.map D.v))).Sub _
    rw [hst]
    exact St.Sub.upd hn rfl (St.Sub.refl _)
  have c1 : decide ((i : Int) < (I.length : Int)) = false := decide_eq_false (by omega)
  (simp (disch := first | decide | omega | (simp only [nx]; first | done | omega)) only [go_sem, q5, q6, q7, q10, q11, c1]; (repeat with_reducible refine aI ?_))
  have hk3 : (⟨tn, (T2.set k (ownOb 26 ((decM i I).map encM) (us.map D.v) c)).ob⟩ : St).ob k' = some (ownOb 26 ((decM 0 J).map encM) (us'.map D.v) c') := by
    show (if k' = k then _ else T2.ob k') = _
    rw [if_neg hkk.symm]; exact hk2
  have wX : (⟨tn, (T2.set k (ownOb 26 ((decM i I).map encM) (us.map D.v) c)).ob⟩ : St).WF := hT
  generalize (⟨tn, (T2.set k (ownOb 26 ((decM i I).map encM) (us.map D.v) c)).ob⟩ : St) = T3 at *
  (refine dloop_var (fun t => List.contains [12, 48, 49, 50, 51, 52, 53, 54, 55, 56, 57, 58, 59, 60, 61, 62, 63] t) (by kernel_rfl) ?_ (J.length) (k') (fun x => ownOb 26 ((decM x J).map encM) (us'.map D.v) c') ?_ (fun ib f => ib ≤ J.length ∧ f 12 = .v (.int .i64 (ib : Nat))) ?_ ?_; (exact (by (repeat' first | assumption | refine St.WF.leave ?_ _ | refine St.WF.add ?_ _ | refine St.WF.set ?_ ?_ _ | refine St.WF.grow ?_ _ _ _ | refine St.WF.keep ?_ ?_ | (first | omega | (simp only [RowOk.lo, nx]; first | done | omega))))); (exact (by (first | (first | (simp (disch := first | decide | omega | (simp only [nx]; first | done | omega)) only [go_sem]; first | done | rfl) | rfl) | (first | (simp (disch := first | decide | omega | (simp only [nx]; first | done | omega)) only [go_sem, q5, q6, q10, hk3]; first | done | rfl) | rfl)))); (exact ⟨(by omega), (by (first | (simp (disch := first | decide | omega | (simp only [nx]; first | done | omega)) only [go_sem, q5, q6, q10, hk3]; first | done | rfl) | rfl))⟩); intro ib gb tnb hnb hTb hgb hIb; obtain ⟨leb, q12b⟩ := hIb; have q4b := hgb 4 rfl; have q5b := hgb 5 rfl; have q6b := hgb 6 rfl; have q10b := hgb 10 rfl; simp (disch := first | decide | omega | (simp only [nx]; first | done | omega)) only [go_sem, q5, q6, q10, hk3] at q4b q5b q6b q10b; clear hgb; have hnb' := hnb; try simp only [add_next, set_next, grow_next, leave_next, drop_next] at hnb')
  by_cases hlb : ib < J.length
  · have c2 : decide ((ib : Int) < (J.length : Int)) = true := decide_eq_true (by omega)
    have hc' : 0 < c' := by omega
    have w1 : IntKind.i64.wrap ((ib : Int) + 1) = ((ib + 1 : Nat) : Int) := IntWalk.i64_in _ ⟨by omega, by omega⟩
    have hdl := decM_len ib J
    have hat := depth_at (l := decM ib J) (zs := us'.map D.v) (i := ib) (by omega)
    have hst := depth_put (l := decM ib J) (zs := us'.map D.v) (i := ib) (by omega)
    have hln : (flat ((decM ib J).map encM) ++ us'.map D.v).length = c' * 33 := by rw [List.length_append, flatMk_len] at j4 ⊢; rw [hdl]; exact j4
    (simp (disch := first | decide | omega | (simp only [nx]; first | done | omega)) only [go_sem, q10b, q12b, c2, hc', ownOb_box, Nat.zero_add, Nat.add_zero, hat, hln]; (repeat with_reducible refine aI ?_))
    refine ⟨by omega, ?_, by omega, by (first | (simp (disch := first | decide | omega | (simp only [nx]; first | done | omega)) only [go_sem, w1]; first | done | rfl) | rfl)⟩
    show (St.set _ k' (Ob.box 26 (flat ((decM (ib + 1) J).map encM) ++ us'.map D.v))).Sub _
    rw [hst]
    exact St.Sub.upd hnb rfl (St.Sub.refl _)
  have c2 : decide ((ib : Int) < (J.length : Int)) = false := decide_eq_false (by omega)
  (simp (disch := first | decide | omega | (simp only [nx]; first | done | omega)) only [go_sem, q5b, q6b, q10b, q12b, c2]; (repeat with_reducible refine aI ?_))
  refine DCalls.of_pure (same_d .no _ (lineM l) (lineM l) hl2) ?_
  rw [decide_eq_true rfl]
  (simp (disch := first | decide | omega | (simp only [nx]; first | done | omega)) only [go_sem]; (repeat with_reducible refine aI ?_))
  refine DCalls.of_pure awake_d ?_
  (simp (disch := first | decide | omega | (simp only [nx]; first | done | omega)) only [go_sem]; (repeat with_reducible refine aI ?_))
  exact ⟨rfl, ⟨Nat.zero_le _, fun _ _ h => by cases h⟩⟩
theorem lineOwn_d (l : List DMk) (m : DMk) : DPure Try.prog 7 [.sl .no (l.map encM), encM m] (.v (.bool true)) := dpure_nil (by
  simp only [allL, and_true]
  exact ⟨closed_Mks l, closed_encM m⟩) (lineOwn_at l m)
end
end Go.Proofs.Ytgadflonnnkjcaa

namespace Go.Proofs.Ytgadflonnnkjcaa
open Go.ChangeShapes Go.WideShapes Go.ChangeAt Go.RowKit
theorem lineOwn_own : ownKnob Try.prog.godebug = none := by kernel_rfl
theorem lineOwn_laidOut : laidOutB Try.prog = true := by kernel_rfl
set_option maxRecDepth 100000 in
theorem lineOwn_lifted (os : Os) (started : os.Started) (H : Type) (enc : TypeId × Value → H) :
    ReturnsInHanded {} Try.checked os 7 .any (Rows.lineOwnSpec.pre6 enc Try.prog Try.f7 Rows.lineOwnRow.domain false) (Rows.lineOwnSpec.post enc Try.prog Try.f7 false true false false) := by
  refine returnsInHanded_of_change_sized (C := Try.checked) lineOwn_own started (by kernel_rfl) Try.func7
    (ChangeSpec.witness6 (enc := enc) (C := Try.checked) false ⟨#[], #[.slice none 0 0, .agg (mkVs (0, z32)).toArray], []⟩ 8 (by kernel_rfl) (by kernel_rfl) (by kernel_rfl) (by kernel_rfl)) ?_
  intro W base args ds gs before hval0 hW hcnd hsz0 _
  have hval : ∀ (j : Nat) t v, Try.f7.params[j]? = some t → args[j]? = some v → Value.okWide Try.prog W .any base t v := hval0
  have hsz : (DataW.weightsEach Try.prog (Try.f7.params.toList ++ Rows.lineOwnSpec.plain.varTypes Try.prog) (ds ++ gs)).all (· ≤ reachBytes) = true := hsz0
  have hW' := hW
  obtain ⟨p, q, hA0, hV, rfl, hfz, hnd⟩ := hW
  have hA : DataW.TrodAll enc Try.prog W 0 (fun _ => true) true Try.f7.params.toList args.toList ds p := hA0
  obtain ⟨rfl, rfl⟩ := trodVars_none hV
  rw [Try.params7] at hA hval hsz
  have hA1 := hA
  obtain ⟨v0, vs0, d0, ds0, p0, q0, hargs, rfl, rfl, h0, r0⟩ := trodAll_cons hA
  obtain ⟨v1, vs1, d1, ds1, p1, q1, rfl, rfl, rfl, h1, r1⟩ := trodAll_cons r0
  obtain ⟨rfl, rfl, rfl⟩ := trodAll_nil r1
  obtain rfl : args = #[v0, v1] := by cases args; simp_all
  have z0 : Sized Try.prog 22 d0 := sized_of_each (j := 0) hsz rfl rfl
  have k0 : Value.okWide Try.prog W .any base 22 v0 := hval 0 _ _ rfl rfl
  have z1 : Sized Try.prog 26 d1 := sized_of_each (j := 1) hsz rfl rfl
  have k1 : Value.okWide Try.prog W .any base 26 v1 := hval 1 _ _ rfl rfl
  clear hA0 hval0 hsz hsz0 hval
  have key : Calls Try.prog 7 #[v0, v1] W (Gives (.bool true) W) := by
    obtain ⟨l, _, hl⟩ := open_marks h0 z0 k0
    obtain ⟨a, ha⟩ := open_mark h1 k1
    exact gives_of_dpure (vs := [v0, v1]) (lineOwn_d l a) (by simp only [RepL]; exact ⟨_, _, rfl, hl _ _ fix_nil, _, _, rfl, ha _ _, rfl⟩)
  refine key.mono fun e W' ⟨he, bel⟩ => ?_
  subst he
  exact ⟨_, rfl, _, _, _, [], _, [], hW', trodAll_mk1 (shut_bool Try.underlying4 _), trodAll_below lineOwn_laidOut bel (by kernel_rfl) hA1, rfl, bel.frame _, fun h => by cases h⟩

theorem lineOwn_holds : Rows.LineOwnSaid :=
  OpenClaim.holds_of_wide 7 Try.f7 rfl rfl rfl rfl rfl rfl rfl ⟨rfl, rfl, rfl, rfl, rfl⟩ rfl rfl rfl rfl rfl (by kernel_rfl) Try.func7 (by kernel_rfl)
    (of_decide_eq_true (by kernel_rfl)) (by unfold Func.isWrapper; first | (rw [if_pos (by decide +kernel)]; kernel_rfl) | (rw [if_neg (by decide +kernel)]; exact ⟨rfl, rfl⟩))
    (fun os started H enc _ => lineOwn_lifted os started H enc)
#print axioms lineOwn_holds
end Go.Proofs.Ytgadflonnnkjcaa
