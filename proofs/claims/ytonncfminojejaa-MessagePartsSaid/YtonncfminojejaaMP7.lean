/- MessageParts answers true for any names and any entries, and leaves its arguments as they were. Conditions: none but the statement's own. -/
import Derived.Test.YtonncfminojejaaMP6
import Derived.Test.YtonncfminojejaaRows
set_option linter.unusedVariables false
set_option linter.unusedSimpArgs false
namespace Go.Proofs.Ytonncfminojejaa
open Go.RowKit
theorem dpure_thaw {P : Program} {g : FuncId} {args : List D} {r : D} (hc : r.closed) (h : ∀ S : St, S.WF → DCalls P g args S fun d T => ∃ S1 d1, Thaw P T d S1 d1 ∧ d1.frz = r ∧ S.Sub S1) : DPure P g args r := fun S base η w vs hM hr =>
  calls_fin ((h S hM.fresh).mono fun d T ⟨S1, d1, ht, e, hs⟩ => ⟨S1, d1, ht, r, S, e ▸ DLe.frz d1, D.all_mono (fun _ h => h.elim) hc, hs.next, Nat.le_refl _, fun k o hk => ⟨hs.ob k o hk, St.WF.lt (S := S) hM.fresh hk, fun _ _ _ => .inl hk⟩, rfl, rfl⟩) base η w vs hM hr
theorem dIf_cut {P : Program} {f : Fm} {S : St} {Q : DQ} {b : Bool} {x y : Code} {k : Fm → St → Prop} (J : Fm → St → Prop) (h : dIf (.v (.bool b)) (dwpF P x (DQ.then J Q) f S) (dwpF P y (DQ.then J Q) f S)) (hk : ∀ f' S', J f' S' → k f' S') : dIf (.v (.bool b)) (dwpF P x (DQ.then k Q) f S) (dwpF P y (DQ.then k Q) f S) := by
  have key : ∀ c : Code, dwp P c (DQ.then J Q) f S → dwp P c (DQ.then k Q) f S := fun c hc => dwp_mono c (fun e f' S' hq => by
    cases e with
    | normal => exact hk _ _ hq
    | exit i => exact hq
    | ret => exact hq) hc
  exact ⟨fun e => key x (h.1 e), fun e => key y (h.2 e)⟩
def encX (n : Int) (x y : D) : D := .agg (.v (.int .i64 n) :: .v (.bool false) :: (zF.1.map bD ++ [x, y]))
theorem agg_X2 (x y : D) : D.agg [.v (.int .i64 2), .v (.bool false), D.v (.int .u8 0), D.v (.int .u8 0), D.v (.int .u8 0), D.v (.int .u8 0), D.v (.int .u8 0), D.v (.int .u8 0), D.v (.int .u8 0), D.v (.int .u8 0), D.v (.int .u8 0), D.v (.int .u8 0), D.v (.int .u8 0), D.v (.int .u8 0), D.v (.int .u8 0), D.v (.int .u8 0), D.v (.int .u8 0), D.v (.int .u8 0), D.v (.int .u8 0), D.v (.int .u8 0), D.v (.int .u8 0), D.v (.int .u8 0), D.v (.int .u8 0), D.v (.int .u8 0), D.v (.int .u8 0), D.v (.int .u8 0), D.v (.int .u8 0), D.v (.int .u8 0), D.v (.int .u8 0), D.v (.int .u8 0), D.v (.int .u8 0), D.v (.int .u8 0), D.v (.int .u8 0), D.v (.int .u8 0), D.v (.int .u8 0), D.v (.int .u8 0), D.v (.int .u8 0), D.v (.int .u8 0), D.v (.int .u8 0), D.v (.int .u8 0), D.v (.int .u8 0), D.v (.int .u8 0), D.v (.int .u8 0), D.v (.int .u8 0), D.v (.int .u8 0), D.v (.int .u8 0), D.v (.int .u8 0), D.v (.int .u8 0), D.v (.int .u8 0), D.v (.int .u8 0), D.v (.int .u8 0), D.v (.int .u8 0), D.v (.int .u8 0), D.v (.int .u8 0), D.v (.int .u8 0), D.v (.int .u8 0), D.v (.int .u8 0), D.v (.int .u8 0), D.v (.int .u8 0), D.v (.int .u8 0), D.v (.int .u8 0), D.v (.int .u8 0), D.v (.int .u8 0), D.v (.int .u8 0), D.v (.int .u8 0), D.v (.int .u8 0), x, y] = encX 2 x y := by kernel_rfl
theorem agg_X3 (x y : D) : D.agg [.v (.int .i64 3), .v (.bool false), D.v (.int .u8 0), D.v (.int .u8 0), D.v (.int .u8 0), D.v (.int .u8 0), D.v (.int .u8 0), D.v (.int .u8 0), D.v (.int .u8 0), D.v (.int .u8 0), D.v (.int .u8 0), D.v (.int .u8 0), D.v (.int .u8 0), D.v (.int .u8 0), D.v (.int .u8 0), D.v (.int .u8 0), D.v (.int .u8 0), D.v (.int .u8 0), D.v (.int .u8 0), D.v (.int .u8 0), D.v (.int .u8 0), D.v (.int .u8 0), D.v (.int .u8 0), D.v (.int .u8 0), D.v (.int .u8 0), D.v (.int .u8 0), D.v (.int .u8 0), D.v (.int .u8 0), D.v (.int .u8 0), D.v (.int .u8 0), D.v (.int .u8 0), D.v (.int .u8 0), D.v (.int .u8 0), D.v (.int .u8 0), D.v (.int .u8 0), D.v (.int .u8 0), D.v (.int .u8 0), D.v (.int .u8 0), D.v (.int .u8 0), D.v (.int .u8 0), D.v (.int .u8 0), D.v (.int .u8 0), D.v (.int .u8 0), D.v (.int .u8 0), D.v (.int .u8 0), D.v (.int .u8 0), D.v (.int .u8 0), D.v (.int .u8 0), D.v (.int .u8 0), D.v (.int .u8 0), D.v (.int .u8 0), D.v (.int .u8 0), D.v (.int .u8 0), D.v (.int .u8 0), D.v (.int .u8 0), D.v (.int .u8 0), D.v (.int .u8 0), D.v (.int .u8 0), D.v (.int .u8 0), D.v (.int .u8 0), D.v (.int .u8 0), D.v (.int .u8 0), D.v (.int .u8 0), D.v (.int .u8 0), D.v (.int .u8 0), D.v (.int .u8 0), x, y] = encX 3 x y := by kernel_rfl
theorem cl_encX (n : Int) (x y : D) : (encX n x y).cells.length = 68 := by show (_ :: _ :: (_ ++ _)).length = 68; simp [zF]
theorem width_encX (n : Int) (x y : D) : (encX n x y).width = 68 := cl_encX n x y
theorem okCell_encX (n : Int) (x y : D) : (encX n x y).okCell = true := rfl
theorem frz_encX2 (o : Own) (l : List H32) (o2 : Own) : (encX 2 (.sl o (l.map encH)) (.sl o2 [])).frz = encMs (wantM l) := by
  simp only [encX, encMs, msCs, msT, wantM, frz_agg, frzL, D.frz, frzL_append, frz_bB, frz_Hs, List.map_nil]
theorem frz_encX3 (o : Own) (l : List (List UInt8)) (o2 : Own) : (encX 3 (.sl o2 []) (.sl o (l.map encB))).frz = encMs (giveM l) := by
  simp only [encX, encMs, msCs, msT, giveM, frz_agg, frzL, D.frz, frzL_append, frz_bB, frz_Es, List.map_nil]
def xHd (n : Int) : List D := .v (.int .i64 n) :: .v (.bool false) :: zF.1.map bD
theorem xHd_len (n : Int) : (xHd n).length = 66 := by simp [xHd, zF]
theorem flatX (n : Int) (es0 : List D) (x y : D) (zs : List D) : flat (es0 ++ [encX n x y]) ++ zs = flat es0 ++ xHd n ++ x :: y :: zs := by
  have e : flat ([] : List D) = [] := rfl
  rw [flat_append, flat_cons, e]
  show flat es0 ++ ((_ :: _ :: (zF.1.map bD ++ [x, y])) ++ []) ++ zs = _
  simp [xHd]
theorem flatX_len (n : Int) {es0 : List D} (hw : ∀ d ∈ es0, d.width = 68) : (flat es0 ++ xHd n).length = es0.length * 68 + 66 := by
  rw [List.length_append, dflat_length hw, xHd_len]
theorem getX (n : Int) {es0 : List D} (hw : ∀ d ∈ es0, d.width = 68) (x y : D) (zs : List D) : (flat (es0 ++ [encX n x y]) ++ zs).getD (es0.length * 68 + 66) undefD = x := by
  rw [flatX, List.getD_eq_getElem?_getD, List.getElem?_append_right (by rw [flatX_len n hw]; omega), flatX_len n hw, Nat.sub_self]
  rfl
theorem getX1 (n : Int) {es0 : List D} (hw : ∀ d ∈ es0, d.width = 68) (x y : D) (zs : List D) : (flat (es0 ++ [encX n x y]) ++ zs).getD (es0.length * 68 + 67) undefD = y := by
  rw [flatX, List.getD_eq_getElem?_getD, List.getElem?_append_right (by rw [flatX_len n hw]; omega), flatX_len n hw, show es0.length * 68 + 67 - (es0.length * 68 + 66) = 1 by omega]
  rfl
theorem setX (n : Int) {es0 : List D} (hw : ∀ d ∈ es0, d.width = 68) (x y x' : D) (zs : List D) : (flat (es0 ++ [encX n x y]) ++ zs).take (es0.length * 68 + 66) ++ [x'] ++ (flat (es0 ++ [encX n x y]) ++ zs).drop (es0.length * 68 + 67) = flat (es0 ++ [encX n x' y]) ++ zs := by
  have h := flatX_len n hw
  rw [flatX, flatX, List.take_left' h, List.drop_append, List.drop_of_length_le (by omega), h, show es0.length * 68 + 67 - (es0.length * 68 + 66) = 1 by omega]
  simp
theorem setX1 (n : Int) {es0 : List D} (hw : ∀ d ∈ es0, d.width = 68) (x y y' : D) (zs : List D) : (flat (es0 ++ [encX n x y]) ++ zs).take (es0.length * 68 + 67) ++ [y'] ++ (flat (es0 ++ [encX n x y]) ++ zs).drop (es0.length * 68 + 68) = flat (es0 ++ [encX n x y']) ++ zs := by
  have h : (flat es0 ++ xHd n ++ [x]).length = es0.length * 68 + 67 := by rw [List.length_append, flatX_len n hw]; rfl
  have e : ∀ y, flat es0 ++ xHd n ++ x :: y :: zs = flat es0 ++ xHd n ++ [x] ++ y :: zs := fun y => by simp
  rw [flatX, flatX, e, e, List.take_left' h, List.drop_append, List.drop_of_length_le (by omega), h, show es0.length * 68 + 68 - (es0.length * 68 + 67) = 1 by omega]
  simp
structure GrpW (s : List H32) (i lo : Nat) (es : List D) (T : St) : Prop where
  ex : ∃ es0 tail, es = es0 ++ tail ∧ es0.map D.frz = (List.range (i / 8)).map (fun j => encMs (wantM (chunk8 s j))) ∧ ((i % 8 = 0 ∧ tail = []) ∨ (0 < i % 8 ∧ ∃ g, tail = [encX 2 (.sl (.row g) (((s.drop (8 * (i / 8))).take (i % 8)).map encH)) (.sl .full [])] ∧ T.ob g = some (.row 44 (i % 8)) ∧ lo ≤ g))
  w : ∀ d ∈ es, d.width = 68
theorem GrpW.len {s : List H32} {i lo : Nat} {es : List D} {T : St} (h : GrpW s i lo es T) : es.length = (i + 7) / 8 := by
  obtain ⟨es0, tail, rfl, h1, h2⟩ := h.ex
  have h3 := congrArg List.length h1
  rw [List.length_map, List.length_map, List.length_range] at h3
  rw [List.length_append, h3]
  rcases h2 with ⟨h4, rfl⟩ | ⟨h4, g, rfl, _⟩
  · rw [List.length_nil]; omega
  · rw [List.length_singleton]; omega
theorem GrpW.fin {s : List H32} {lo : Nat} {es : List D} {T : St} (h : GrpW s s.length lo es T) : es.map D.frz = (chunks8 s).map fun l => encMs (wantM l) := by
  obtain ⟨es0, tail, rfl, h1, h2⟩ := h.ex
  rw [List.map_append, h1]
  unfold chunks8
  rw [List.map_map]
  rcases h2 with ⟨h4, rfl⟩ | ⟨h4, g, rfl, _⟩
  · rw [show (s.length + 7) / 8 = s.length / 8 by omega]
    simp [Function.comp_def]
  · rw [show (s.length + 7) / 8 = s.length / 8 + 1 by omega, List.range_succ, List.map_append]
    congr 1
    have e : (s.drop (8 * (s.length / 8))).take (s.length % 8) = chunk8 s (s.length / 8) := by
      rw [chunk8, List.take_of_length_le (by rw [List.length_drop]; omega), List.take_of_length_le (by rw [List.length_drop]; omega)]
    rw [e]
    simp only [List.map_cons, List.map_nil, Function.comp, frz_encX2]
theorem GrpW.next {s : List H32} {i lo g : Nat} {es0 : List D} {T : St} (hi : i < s.length) (h1 : es0.map D.frz = (List.range (i / 8)).map (fun j => encMs (wantM (chunk8 s j)))) (hw : ∀ d ∈ es0, d.width = 68) (hg : T.ob g = some (.row 44 (i % 8 + 1))) (hl : lo ≤ g) :
    GrpW s (i + 1) lo (es0 ++ [encX 2 (.sl (.row g) (((s.drop (8 * (i / 8))).take (i % 8)).map encH ++ [encH s[i]])) (.sl .full [])]) T := by
  have e : ((s.drop (8 * (i / 8))).take (i % 8)).map encH ++ [encH s[i]] = ((s.drop (8 * (i / 8))).take (i % 8 + 1)).map encH := by
    have hlt : i % 8 < (s.drop (8 * (i / 8))).length := by rw [List.length_drop]; omega
    rw [List.take_succ_eq_append_getElem hlt, List.map_append, List.getElem_drop]
    have : 8 * (i / 8) + i % 8 = i := by omega
    simp [this]
  rw [e]
  refine ⟨?_, fun d hd => ?_⟩
  · by_cases h7 : i % 8 = 7
    · refine ⟨es0 ++ [encX 2 (.sl (.row g) (((s.drop (8 * (i / 8))).take (i % 8 + 1)).map encH)) (.sl .full [])], [], by simp, ?_, .inl ⟨by omega, rfl⟩⟩
      rw [List.map_append, h1, show (i + 1) / 8 = i / 8 + 1 by omega, List.range_succ, List.map_append]
      congr 1
      have e : (s.drop (8 * (i / 8))).take (i % 8 + 1) = chunk8 s (i / 8) := by rw [chunk8, h7]
      rw [e]
      simp only [List.map_cons, List.map_nil, frz_encX2]
    · refine ⟨es0, _, rfl, ?_, .inr ⟨by omega, g, ?_, ?_, hl⟩⟩
      · rw [show (i + 1) / 8 = i / 8 by omega]; exact h1
      · rw [show (i + 1) / 8 = i / 8 by omega, show (i + 1) % 8 = i % 8 + 1 by omega]
      · rw [show (i + 1) % 8 = i % 8 + 1 by omega]; exact hg
  · rcases List.mem_append.1 hd with h | h
    · exact hw d h
    · obtain rfl := List.mem_singleton.1 h; exact width_encX _ _ _
theorem bin_rem8 {P : Program} {t : TypeId} {x y : Operand} (i : Nat) : dbin P .rem t x y (.v (.int .i64 (i : Int))) (.v (.int .i64 8)) = some (True, .v (.int .i64 ((i % 8 : Nat) : Int))) := by
  have h : ((8 : Int) == 0) = false := by decide
  simp [dbin, eqGuard, binOp, Op.intDiv, pureRun_bind, pureRun_pure]
  rfl
theorem left_ok {S T : St} {e : TypeId} {es : List D} {d : D} (hS : S.WF) (hT : T.WF) (hsub : S.Sub T) (hd : OwnD Try.prog T e es d) (hdk : ∀ k n c, d = .win k 0 n c → S.next ≤ k) : S.Sub (T.left d) ∧ (T.left d).WF ∧ (T.left d).next = T.next := by
  rcases hd with ⟨_, rfl⟩ | ⟨k, c, zs, rfl, hk, _, hkn⟩
  · exact ⟨hsub, hT, rfl⟩
  · refine ⟨hsub.drop hS (hdk _ _ _ rfl), fun j hj => ?_, rfl⟩
    simp only [St.left, St.drop]
    split
    · rfl
    · exact hT j hj
theorem dapp_hs {S : St} {ty : TypeId} {own own2 : Own} {es : List D} {o : D} {K : D → St → Prop} (h : (own = .full ∧ es = []) ∨ ∃ g, own = .row g ∧ S.ob g = some (.row 44 es.length)) (hl : es.length ≤ 1000000) (hw : ∀ d ∈ es, d.width = 32) (ho : o.width = 32)
    (k : K (.sl (.row S.next) (es ++ [o])) (S.grow own 44 (es.length + 1))) : dapp Try.prog S 23 23 ty (.sl own es) (.sl own2 [o]) K := by
  refine dapp_row ?_
  simp only [dappend, elHs, zeHs, byHs, szHs, true_and, Option.isSome_some, List.length_cons, List.length_nil]
  refine ⟨hw, fun d hd => by obtain rfl := List.mem_singleton.1 hd; exact ho, ?_, by omega, by omega, k⟩
  rcases h with ⟨rfl, rfl⟩ | ⟨g, rfl, h⟩
  · trivial
  · exact h
section
set_option maxRecDepth 200000
set_option maxHeartbeats 8000000
theorem zoMs : zeroOk Try.prog 26 = true := by kernel_rfl
theorem rwants_d (ownA : Own) (l : List H32) (hl : l.length ≤ 1000000) : DPure Try.prog 15 [.sl ownA (l.map encH)] (.sl .no ((wantsM l).map encMs)) := by
  refine dpure_thaw (closed_Ms _) fun S hS => ?_
  refine dcalls_inline mixed Try.func15 rfl (fun _ _ => by kernel_rfl) (rs := [.tmp 2]) rfl (by kernel_rfl) (fun hS => ?_)
  (simp (disch := first | decide | omega | (simp only [nx]; first | done | omega)) only [go_sem]; (repeat with_reducible refine aI ?_))
  refine DCalls.of_pure (sorted_d ownA l hl) ?_
  have hsl := sortH_len l
  generalize hs : sortH l = s at *
  (simp (disch := first | decide | omega | (simp only [nx]; first | done | omega)) only [go_sem]; (repeat with_reducible refine aI ?_))
  refine dloop_up (fun t => List.contains [3, 5, 6, 9, 10, 11, 12, 13, 14, 15, 16, 17, 18, 19, 20, 21, 22, 23, 24, 25, 26, 27, 28, 29, 30, 31, 32, 33, 34, 35, 36, 37, 38, 39] t) (by kernel_rfl) hS s.length (fun i q T => i ≤ s.length ∧ q 5 = .v (.int .i64 ((i : Nat) : Int)) ∧ S.Sub T ∧ ∃ d es, q 3 = d ∧ OwnD Try.prog T 26 es d ∧ (∀ k n c, d = .win k 0 n c → S.next ≤ k) ∧ GrpW s i S.next es T)
    ⟨by omega, by (first | (simp (disch := first | decide | omega | (simp only [nx]; first | done | omega)) only [go_sem]; first | done | rfl) | rfl), St.Sub.refl S, _, [], by (first | (simp (disch := first | decide | omega | (simp only [nx]; first | done | omega)) only [go_sem]; first | done | rfl) | rfl), .inl ⟨rfl, rfl⟩, (fun _ _ _ e => by cases e), ⟨⟨[], [], rfl, rfl, .inl ⟨rfl, rfl⟩⟩, fun _ h => by cases h⟩⟩ ?_
  rintro i q T hT hg ⟨le, q5, hsub, d, es, q3, hd, hdk, hgr⟩
  (have q2 := hg 2 rfl; have q4 := hg 4 rfl; simp (disch := first | decide | omega | (simp only [nx]; first | done | omega)) only [go_sem] at q2 q4; clear hg)
  by_cases hlt : i < s.length
  · have b1 : decide ((i : Int) < (s.length : Int)) = true := decide_eq_true (by omega)
    have w1 : IntKind.i64.wrap ((i : Int) + 1) = ((i + 1 : Nat) : Int) := IntWalk.i64_in _ ⟨by omega, by omega⟩
    have hlen := hgr.len
    (simp (disch := first | decide | omega | (simp only [nx]; first | done | omega)) only [go_sem, q4, q5, b1, bin_rem8]; (repeat with_reducible refine aI ?_))
    refine dIf_cut (fun f' S' => f' 5 = .v (.int .i64 ((i : Nat) : Int)) ∧ f' 4 = .sl .no (s.map encH) ∧ S'.WF ∧ S.Sub S' ∧ ∃ k c es0 o zs, f' 3 = .win k 0 (es0.length + 1) c ∧ S.next ≤ k ∧ S'.ob k = some (.box 26 (flat (es0 ++ [encX 2 (.sl o (((s.drop (8 * (i / 8))).take (i % 8)).map encH)) (.sl .full [])]) ++ zs)) ∧
      (flat (es0 ++ [encX 2 (.sl o (((s.drop (8 * (i / 8))).take (i % 8)).map encH)) (.sl .full [])]) ++ zs).length = c * 68 ∧ (∀ d ∈ es0, d.width = 68) ∧ es0.map D.frz = (List.range (i / 8)).map (fun j => encMs (wantM (chunk8 s j))) ∧ ((o = .full ∧ i % 8 = 0) ∨ ∃ g, o = .row g ∧ S'.ob g = some (.row 44 (i % 8)) ∧ S.next ≤ g)) ?_ ?_
    · refine dIf_both (fun hb => ?_) (fun hb => ?_)
      · have h8 : i % 8 = 0 := by have := beq_iff_eq.1 hb; omega
        have ei : ((s.drop (8 * (i / 8))).take (i % 8)).map encH = [] := by rw [h8]; simp
        obtain ⟨es0, tail, rfl, e1, e2⟩ := hgr.ex
        obtain rfl : tail = [] := by rcases e2 with e2 | e2; exact e2.2; omega
        rw [List.append_nil] at hd hlen hgr
        (simp (disch := first | decide | omega | (simp only [nx]; first | done | omega)) only [go_sem, q3, agg_X2, width_encX, okCell_encX, cl_encX]; (repeat with_reducible refine aI ?_))
        refine dapp_ownD (es2 := [encX 2 (.sl .full []) (.sl .full [])]) elMs (by rw [elMs]; rfl) zeMs zoMs hd (by rw [szMs]; exact hgr.w) (by rw [szMs]; intro d hd; obtain rfl := List.mem_singleton.1 hd; exact width_encX 2 (.sl .full []) (.sl .full [])) (by simp only [List.length_singleton]; omega) (by simp only [List.length_singleton, byMs]; omega) fun c' zs' hz => ?_
        rw [szMs] at hz
        have hc' : 0 < c' := by
          have h1 : (flat (es0 ++ [encX 2 (.sl .full []) (.sl .full [])])).length = (es0.length + 1) * 68 := by
            rw [dflat_length (z := 68), List.length_append]; rfl
            intro d hd
            rcases List.mem_append.1 hd with h | h
            · exact hgr.w d h
            · obtain rfl := List.mem_singleton.1 h; exact width_encX _ _ _
          rw [List.length_append, h1] at hz
          omega
        obtain ⟨l1, l2, l3⟩ := left_ok hS hT hsub hd hdk
        rw [ownOb_box hc']
        (simp (disch := first | decide | omega | (simp only [nx]; first | done | omega)) only [go_sem, q3, q4, q5]; (repeat with_reducible refine aI ?_))
        rw [ei]
        exact ⟨l2.add _, l1.add hS _, T.next, c', es0, .full, zs', rfl, hsub.next, by (first | (simp (disch := first | decide | omega | (simp only [nx]; first | done | omega)) only [go_sem, l3]; first | done | rfl) | rfl), hz, hgr.w, e1, .inl ⟨rfl, h8⟩⟩
      · have h8 : 0 < i % 8 := by
          have := beq_eq_false_iff_ne.1 hb
          omega
        obtain ⟨es0, tail, rfl, e1, e2⟩ := hgr.ex
        obtain ⟨_, g, rfl, hg, hgl⟩ := e2.resolve_left (by omega)
        (simp (disch := first | decide | omega | (simp only [nx]; first | done | omega)) only [go_sem, q3, q4, q5]; (repeat with_reducible refine aI ?_))
        rcases hd with ⟨hn, _⟩ | ⟨k, c, zs, rfl, hk, hz, hkn⟩
        · exact absurd hn (by simp)
        rw [szMs] at hz
        have hc' : 0 < c := by
          rw [List.length_append, dflat_length (z := 68) hgr.w, List.length_append, List.length_singleton] at hz
          omega
        rw [ownOb_box hc'] at hk
        exact ⟨k, c, es0, .row g, zs, by rw [List.length_append]; rfl, hdk _ _ _ rfl, hk, hz, fun d hd => hgr.w d (List.mem_append_left _ hd), e1, .inr ⟨g, rfl, hg, hgl⟩⟩
    · rintro f' T' ⟨f5, f4, hT', hsub', k, c, es0, o, zs, f3, hk0, hk, hz, hw, hfz, ho⟩
      have hel : es0.length = i / 8 := by have := congrArg List.length hfz; simpa using this
      have wk : IntKind.i64.wrap (((es0.length + 1 : Nat) : Int) - 1) = (es0.length : Int) := (IntWalk.i64_in _ ⟨by omega, by omega⟩).trans (by omega)
      generalize hids : ((s.drop (8 * (i / 8))).take (i % 8)).map encH = ids at *
      have hil : ids.length = i % 8 := by rw [← hids, List.length_map, List.length_take, List.length_drop]; omega
      have hiw : ∀ d ∈ ids, d.width = 32 := by rw [← hids]; exact wHs _
      have lh := s[i].2
      have hkl := hT'.lt hk
      have hgx := getX 2 hw (.sl o ids) (.sl .full []) zs
      have hln : es0.length * 68 + 68 ≤ c * 68 := by
        rw [flatX, List.length_append, flatX_len 2 hw] at hz
        simp only [List.length_cons] at hz
        omega
      (simp (disch := first | decide | omega | (simp only [nx]; first | done | omega)) only [go_sem, f3, f4, f5, wk]; (repeat with_reducible refine aI ?_))
      refine ddraw_any (fun S' => S'.ob k = some (.box 26 (flat (es0 ++ [encX 2 (.sl o ids) (.sl .full [])]) ++ zs))) 15 (by (first | (simp (disch := first | decide | omega | (simp only [nx]; first | done | omega)) only [go_sem, hk]; first | done | rfl) | rfl)) (by kernel_rfl) ?_
      (refine s_take 0 rfl (by kernel_rfl) (by kernel_rfl) (v := ?v1) (fun S' hz => dquietR_of ?h1) <| s_take 1 rfl (by kernel_rfl) (by kernel_rfl) (v := ?v2) (fun S' hz => dquietR_of ?h2) <| s_take 2 rfl (by kernel_rfl) (by kernel_rfl) (v := ?v3) (fun S' hz => dquietR_of ?h3) <| s_take 3 rfl (by kernel_rfl) (by kernel_rfl) (v := ?v4) (fun S' hz => dquietR_of ?h4) <| s_take 4 rfl (by kernel_rfl) (by kernel_rfl) (v := ?v5) (fun S' hz => dquietR_of ?h5) <| s_take 5 rfl (by kernel_rfl) (by kernel_rfl) (v := ?v6) (fun S' hz => dquietR_of ?h6) <| s_take 6 rfl (by kernel_rfl) (by kernel_rfl) (v := ?v7) (fun S' hz => dquietR_of ?h7) <| ?k7; (case h1 | h2 | h3 | h4 | h5 | h6 | h7 => ((simp (disch := first | decide | omega | (simp only [nx]; first | done | omega)) only [go_sem, f3, f4, f5, hgx, hz]; (repeat with_reducible refine aI ?_)); first | done | exact rfl | omega)))
      (refine s_take 7 rfl (by kernel_rfl) (by kernel_rfl) (v := ?v8) (fun S' hz => dquietR_of ?h8) <| s_take 8 rfl (by kernel_rfl) (by kernel_rfl) (v := ?v9) (fun S' hz => dquietR_of ?h9) <| s_take 9 rfl (by kernel_rfl) (by kernel_rfl) (v := ?v10) (fun S' hz => dquietR_of ?h10) <| s_take 10 rfl (by kernel_rfl) (by kernel_rfl) (v := ?v11) (fun S' hz => dquietR_of ?h11) <| s_take 11 rfl (by kernel_rfl) (by kernel_rfl) (v := ?v12) (fun S' hz => dquietR_of ?h12) <| ?k12; (case h8 | h9 | h10 | h11 | h12 => ((simp (disch := first | decide | omega | (simp only [nx]; first | done | omega)) only [go_sem, f3, f4, f5, hgx, hlt, lh, hz]; (repeat with_reducible refine aI ?_)); first | done | exact rfl | omega)))
      (refine s_split [12] (by kernel_rfl) (by simp) ?_; intro j_ hj_; obtain rfl : j_ = 12 := (by simpa using hj_); clear hj_; refine s_op rfl ?_; (simp (disch := first | decide | omega | (simp only [nx]; first | done | omega)) only [go_sem, hgx]; (repeat with_reducible refine aI ?_)))
      have hor : (o = .full ∧ ids = []) ∨ ∃ g, o = .row g ∧ T'.ob g = some (.row 44 ids.length) := by
        rcases ho with ⟨h1, h2⟩ | ⟨g, h1, h2, _⟩
        · exact .inl ⟨h1, List.eq_nil_of_length_eq_zero (by omega)⟩
        · exact .inr ⟨g, h1, by rw [hil]; exact h2⟩
      refine dapp_hs hor (by omega) hiw (width_encH _) ?_
      have hgk : (T'.grow o 44 (ids.length + 1)).ob k = some (.box 26 (flat (es0 ++ [encX 2 (.sl o ids) (.sl .full [])]) ++ zs)) := by
        have h3 : k ≠ T'.next := by omega
        rcases ho with ⟨rfl, _⟩ | ⟨g, rfl, h2, _⟩
        · simp [St.grow, St.leave, St.add, h3, hk]
        · have h4 : k ≠ g := fun e => by rw [e, h2] at hk; cases hk
          simp [St.grow, St.leave, St.add, St.drop, h3, h4, hk]
      have hgr2 : (T'.grow o 44 (ids.length + 1)).ob T'.next = some (.row 44 (ids.length + 1)) := by
        rcases ho with ⟨rfl, _⟩ | ⟨g, rfl, h2, _⟩ <;> simp [St.grow, St.leave, St.add, St.drop]
      have hgs : S.Sub (T'.grow o 44 (ids.length + 1)) ∧ (T'.grow o 44 (ids.length + 1)).next = T'.next + 1 := by
        rcases ho with ⟨rfl, _⟩ | ⟨g, rfl, h2, hl⟩
        · exact ⟨hsub'.add hS _, rfl⟩
        · exact ⟨(hsub'.drop hS hl).add hS _, rfl⟩
      generalize T'.grow o 44 (ids.length + 1) = T2 at *
      refine ⟨hgk, ?_⟩
      (refine s_take 13 rfl (by kernel_rfl) (by kernel_rfl) (v := ?v13) (fun S' hz => dquietR_of ?h13) <| s_take 14 rfl (by kernel_rfl) (by kernel_rfl) (v := ?v14) (fun S' hz => dquietR_of ?h14) <| ?k14; (case h13 | h14 => ((simp (disch := first | decide | omega | (simp only [nx]; first | done | omega)) only [go_sem, f3, f4, f5, hz]; (repeat with_reducible refine aI ?_)); first | done | exact rfl | omega)))
      have hsx := setX 2 hw (.sl o ids) (.sl .full []) (.sl (.row T'.next) (ids ++ [encH s[i]])) zs
      (refine s_done (by kernel_rfl) ?_; (simp (disch := first | decide | omega | (simp only [nx]; first | done | omega)) only [go_sem, hgk, f3, f5, w1, hsx]; (repeat with_reducible refine aI ?_)))
      refine ⟨by omega, _, fun _ _ h => h, by omega, by (first | (simp (disch := first | decide | omega | (simp only [nx]; first | done | omega)) only [go_sem, w1]; first | done | rfl) | rfl), ?_, _, es0 ++ [encX 2 (.sl (.row T'.next) (ids ++ [encH s[i]])) (.sl .full [])], by (first | (simp (disch := first | decide | omega | (simp only [nx]; first | done | omega)) only [go_sem, f3]; first | done | rfl) | rfl), .inr ⟨k, c, zs, by rw [List.length_append]; rfl, ?_, ?_, ?_⟩, ?_, ?_⟩
      · exact hgs.1.set hS hk0 _
      · show (T2.set k _).ob k = _
        rw [ownOb_box (by omega)]
        simp [St.set]
      · rw [szMs]
        rw [flatX] at hz ⊢
        simp only [List.length_append, List.length_cons] at hz ⊢
        exact hz
      · show k < T2.next
        omega
      · intro k2 n2 c2 e
        injection e with e
        omega
      · have hh := GrpW.next (T := T2.set k (.box 26 (flat (es0 ++ [encX 2 (.sl (.row T'.next) (ids ++ [encH s[i]])) (.sl .full [])]) ++ zs))) (g := T'.next) (lo := S.next) hlt hfz hw ?_ hsub'.next
        · rw [hids] at hh; exact hh
        · rw [hil] at hgr2
          have : T'.next ≠ k := by omega
          simp [St.set, this, hgr2]
  · have b1 : decide ((i : Int) < (s.length : Int)) = false := decide_eq_false (by omega)
    have ei : i = s.length := by omega
    subst ei
    (simp (disch := first | decide | omega | (simp only [nx]; first | done | omega)) only [go_sem, q3, q4, q5, b1]; (repeat with_reducible refine aI ?_))
    have hfin : frzL es = (wantsM l).map encMs := by
      rw [frzL_map, hgr.fin, wantsM, hs, List.map_map]; rfl
    rcases hd with ⟨rfl, rfl⟩ | ⟨k, c, zs, rfl, hk, hz, hkn⟩
    · exact ⟨T, _, Thaw.refl _ _ _, by rw [← hfin]; rfl, hsub⟩
    · refine ⟨_, .sl .no es, thaw_own hk (ownOb_len (by rw [szMs]; exact hgr.w) (by rw [szMs]; omega) hz) (by rw [szMs]; omega) (by rw [szMs]; exact hgr.w) (by simp only [D.thaw, Nat.beq_refl, Bool.and_self, cond_true]), by rw [← hfin]; rfl, hsub.drop hS (hdk _ _ _ rfl)⟩
end
end Go.Proofs.Ytonncfminojejaa

namespace Go.Proofs.Ytonncfminojejaa
open Go.RowKit
structure GrpG (s : List (List UInt8)) (i lo : Nat) (es : List D) (T : St) : Prop where
  ex : ∃ es0 tail, es = es0 ++ tail ∧ es0.map D.frz = (List.range (i / 8)).map (fun j => encMs (giveM (chunk8 s j))) ∧ ((i % 8 = 0 ∧ tail = []) ∨ (0 < i % 8 ∧ ∃ g, tail = [encX 3 (.sl .full []) (.sl (.row g) (((s.drop (8 * (i / 8))).take (i % 8)).map encB))] ∧ T.ob g = some (.row 29 (i % 8)) ∧ lo ≤ g))
  w : ∀ d ∈ es, d.width = 68
theorem GrpG.len {s : List (List UInt8)} {i lo : Nat} {es : List D} {T : St} (h : GrpG s i lo es T) : es.length = (i + 7) / 8 := by
  obtain ⟨es0, tail, rfl, h1, h2⟩ := h.ex
  have h3 := congrArg List.length h1
  rw [List.length_map, List.length_map, List.length_range] at h3
  rw [List.length_append, h3]
  rcases h2 with ⟨h4, rfl⟩ | ⟨h4, g, rfl, _⟩
  · rw [List.length_nil]; omega
  · rw [List.length_singleton]; omega
theorem GrpG.fin {s : List (List UInt8)} {lo : Nat} {es : List D} {T : St} (h : GrpG s s.length lo es T) : es.map D.frz = (chunks8 s).map fun l => encMs (giveM l) := by
  obtain ⟨es0, tail, rfl, h1, h2⟩ := h.ex
  rw [List.map_append, h1]
  unfold chunks8
  rw [List.map_map]
  rcases h2 with ⟨h4, rfl⟩ | ⟨h4, g, rfl, _⟩
  · rw [show (s.length + 7) / 8 = s.length / 8 by omega]
    simp [Function.comp_def]
  · rw [show (s.length + 7) / 8 = s.length / 8 + 1 by omega, List.range_succ, List.map_append]
    congr 1
    have e : (s.drop (8 * (s.length / 8))).take (s.length % 8) = chunk8 s (s.length / 8) := by
      rw [chunk8, List.take_of_length_le (by rw [List.length_drop]; omega), List.take_of_length_le (by rw [List.length_drop]; omega)]
    rw [e]
    simp only [List.map_cons, List.map_nil, Function.comp, frz_encX3]
theorem GrpG.next {s : List (List UInt8)} {i lo g : Nat} {es0 : List D} {T : St} (hi : i < s.length) (h1 : es0.map D.frz = (List.range (i / 8)).map (fun j => encMs (giveM (chunk8 s j)))) (hw : ∀ d ∈ es0, d.width = 68) (hg : T.ob g = some (.row 29 (i % 8 + 1))) (hl : lo ≤ g) :
    GrpG s (i + 1) lo (es0 ++ [encX 3 (.sl .full []) (.sl (.row g) (((s.drop (8 * (i / 8))).take (i % 8)).map encB ++ [encB s[i]]))]) T := by
  have e : ((s.drop (8 * (i / 8))).take (i % 8)).map encB ++ [encB s[i]] = ((s.drop (8 * (i / 8))).take (i % 8 + 1)).map encB := by
    have hlt : i % 8 < (s.drop (8 * (i / 8))).length := by rw [List.length_drop]; omega
    rw [List.take_succ_eq_append_getElem hlt, List.map_append, List.getElem_drop]
    have : 8 * (i / 8) + i % 8 = i := by omega
    simp [this]
  rw [e]
  refine ⟨?_, fun d hd => ?_⟩
  · by_cases h7 : i % 8 = 7
    · refine ⟨es0 ++ [encX 3 (.sl .full []) (.sl (.row g) (((s.drop (8 * (i / 8))).take (i % 8 + 1)).map encB))], [], by simp, ?_, .inl ⟨by omega, rfl⟩⟩
      rw [List.map_append, h1, show (i + 1) / 8 = i / 8 + 1 by omega, List.range_succ, List.map_append]
      congr 1
      have e : (s.drop (8 * (i / 8))).take (i % 8 + 1) = chunk8 s (i / 8) := by rw [chunk8, h7]
      rw [e]
      simp only [List.map_cons, List.map_nil, frz_encX3]
    · refine ⟨es0, _, rfl, ?_, .inr ⟨by omega, g, ?_, ?_, hl⟩⟩
      · rw [show (i + 1) / 8 = i / 8 by omega]; exact h1
      · rw [show (i + 1) / 8 = i / 8 by omega, show (i + 1) % 8 = i % 8 + 1 by omega]
      · rw [show (i + 1) % 8 = i % 8 + 1 by omega]; exact hg
  · rcases List.mem_append.1 hd with h | h
    · exact hw d h
    · obtain rfl := List.mem_singleton.1 h; exact width_encX _ _ _
theorem dapp_es {S : St} {ty : TypeId} {own own2 : Own} {es : List D} {o : D} {K : D → St → Prop} (h : (own = .full ∧ es = []) ∨ ∃ g, own = .row g ∧ S.ob g = some (.row 29 es.length)) (hl : es.length ≤ 1000000) (hw : ∀ d ∈ es, d.width = 1) (ho : o.width = 1)
    (k : K (.sl (.row S.next) (es ++ [o])) (S.grow own 29 (es.length + 1))) : dapp Try.prog S 24 24 ty (.sl own es) (.sl own2 [o]) K := by
  refine dapp_row ?_
  simp only [dappend, elEs, zeEs, byEs, szEs, true_and, Option.isSome_some, List.length_cons, List.length_nil]
  refine ⟨hw, fun d hd => by obtain rfl := List.mem_singleton.1 hd; exact ho, ?_, by omega, by omega, k⟩
  rcases h with ⟨rfl, rfl⟩ | ⟨g, rfl, h⟩
  · trivial
  · exact h
theorem filt_at {l : List (List UInt8)} {i : Nat} (h : i < l.length) (hok : okE l[i] = true) : ∃ h2 : ((l.take i).filter okE).length < (l.filter okE).length, (l.filter okE)[((l.take i).filter okE).length] = l[i] := by
  have e : l.filter okE = (l.take i).filter okE ++ l[i] :: (l.drop (i + 1)).filter okE := by
    conv => lhs; rw [← List.take_append_drop i l, List.drop_eq_getElem_cons h, List.filter_append, List.filter_cons, if_pos hok]
  refine ⟨by rw [e, List.length_append, List.length_cons]; omega, ?_⟩
  have : (l.filter okE)[((l.take i).filter okE).length]? = some l[i] := by
    rw [e, List.getElem?_append_right (Nat.le_refl _), Nat.sub_self]; rfl
  exact (List.getElem?_eq_some_iff.1 this).2
section
set_option maxRecDepth 200000
set_option maxHeartbeats 8000000
theorem rgives_d (ownA : Own) (l : List (List UInt8)) (hl : l.length ≤ 1000000) : DPure Try.prog 16 [.sl ownA (l.map encB)] (.sl .no ((givesM l).map encMs)) := by
  refine dpure_thaw (closed_Ms _) fun S hS => ?_
  refine dcalls_inline mixed Try.func16 rfl (fun _ _ => by kernel_rfl) (rs := [.tmp 2]) rfl (by kernel_rfl) (fun hS => ?_)
  (simp (disch := first | decide | omega | (simp only [nx]; first | done | omega)) only [go_sem]; (repeat with_reducible refine aI ?_))
  obtain ⟨s, hs⟩ : ∃ s, s = l.filter okE := ⟨_, rfl⟩
  refine dloop_up (fun t => List.contains [3, 4, 5, 6, 7, 8, 9, 10, 11, 12, 13, 14, 15, 16, 17, 18, 19, 20, 21, 22, 23, 24, 25, 26, 27, 28, 29, 30, 31, 32, 33, 34, 35, 36, 37, 38, 39, 40, 41, 42, 43, 44, 45, 46, 47, 48, 49, 50, 51, 52, 53] t) (by kernel_rfl) hS l.length (fun i q T => i ≤ l.length ∧ q 5 = .v (.int .i64 ((i : Nat) : Int)) ∧ q 4 = .v (.int .i64 ((((l.take i).filter okE).length : Nat) : Int)) ∧ S.Sub T ∧ ∃ d es, q 3 = d ∧ OwnD Try.prog T 26 es d ∧ (∀ k n c, d = .win k 0 n c → S.next ≤ k) ∧ GrpG s ((l.take i).filter okE).length S.next es T)
    ⟨by omega, by (first | (simp (disch := first | decide | omega | (simp only [nx]; first | done | omega)) only [go_sem]; first | done | rfl) | rfl), by (first | (simp (disch := first | decide | omega | (simp only [nx]; first | done | omega)) only [go_sem]; first | done | rfl) | rfl), St.Sub.refl S, _, [], by (first | (simp (disch := first | decide | omega | (simp only [nx]; first | done | omega)) only [go_sem]; first | done | rfl) | rfl), .inl ⟨rfl, rfl⟩, (fun _ _ _ e => by cases e), (by rw [List.take_zero]; exact ⟨⟨[], [], rfl, rfl, .inl ⟨rfl, rfl⟩⟩, fun _ h => by cases h⟩)⟩ ?_
  rintro i q T hT hg ⟨le, q5, q4, hsub, d, es, q3, hd, hdk, hgr⟩
  (have q0 := hg 0 rfl; have q2 := hg 2 rfl; simp (disch := first | decide | omega | (simp only [nx]; first | done | omega)) only [go_sem] at q0 q2; clear hg)
  by_cases hlt : i < l.length
  · have b1 : decide ((i : Int) < (l.length : Int)) = true := decide_eq_true (by omega)
    have w1 : IntKind.i64.wrap ((i : Int) + 1) = ((i + 1 : Nat) : Int) := IntWalk.i64_in _ ⟨by omega, by omega⟩
    have hlen := hgr.len
    have hle := okE_len l i
    have ce := cells_encB l[i]
    have skip : okE l[i] = false → (l.take (i + 1)).filter okE = (l.take i).filter okE := fun h => by rw [okE_take hlt, h]; simp
    by_cases h0 : l[i].length < 1
    · have b2 : decide ((l[i].length : Int) < 1) = true := decide_eq_true (by omega)
      have hok : okE l[i] = false := by rw [okE, badE, decide_eq_true (by omega : l[i].length = 0)]; rfl
      (simp (disch := first | decide | omega | (simp only [nx]; first | done | omega)) only [go_sem, q0, q3, q4, q5, b1, b2, hlt, ce, w1]; (repeat with_reducible refine aI ?_))
      refine ⟨by omega, _, fun _ _ h => h, by omega, by (first | (simp (disch := first | decide | omega | (simp only [nx]; first | done | omega)) only [go_sem, w1]; first | done | rfl) | rfl), by rw [skip hok]; (first | (simp (disch := first | decide | omega | (simp only [nx]; first | done | omega)) only [go_sem, q4]; first | done | rfl) | rfl), hsub, d, es, by (first | (simp (disch := first | decide | omega | (simp only [nx]; first | done | omega)) only [go_sem, q3]; first | done | rfl) | rfl), hd, hdk, by rw [skip hok]; exact hgr⟩
    have b2 : decide ((l[i].length : Int) < 1) = false := decide_eq_false (by omega)
    by_cases h4 : l[i].length > 4096
    · have b3 : decide ((l[i].length : Int) > 4096) = true := decide_eq_true (by omega)
      have hok : okE l[i] = false := by rw [okE, badE, decide_eq_true (by omega : 4096 < l[i].length), Bool.or_true]; rfl
      (simp (disch := first | decide | omega | (simp only [nx]; first | done | omega)) only [go_sem, q0, q3, q4, q5, b1, b2, b3, hlt, ce, w1]; (repeat with_reducible refine aI ?_))
      refine ⟨by omega, _, fun _ _ h => h, by omega, by (first | (simp (disch := first | decide | omega | (simp only [nx]; first | done | omega)) only [go_sem, w1]; first | done | rfl) | rfl), by rw [skip hok]; (first | (simp (disch := first | decide | omega | (simp only [nx]; first | done | omega)) only [go_sem, q4]; first | done | rfl) | rfl), hsub, d, es, by (first | (simp (disch := first | decide | omega | (simp only [nx]; first | done | omega)) only [go_sem, q3]; first | done | rfl) | rfl), hd, hdk, by rw [skip hok]; exact hgr⟩
    have b3 : decide ((l[i].length : Int) > 4096) = false := decide_eq_false (by omega)
    have hok : okE l[i] = true := by rw [okE, badE, decide_eq_false (by omega), decide_eq_false (by omega)]; rfl
    have e2 : (l.take (i + 1)).filter okE = (l.take i).filter okE ++ [l[i]] := by rw [okE_take hlt, if_pos hok]
    obtain ⟨hn1, hn2⟩ := filt_at hlt hok
    obtain ⟨n, hn⟩ : ∃ n, n = ((l.take i).filter okE).length := ⟨_, rfl⟩
    have hn1' : n < s.length := by rw [hn, hs]; exact hn1
    have hn2' : s[n] = l[i] := by subst hs; subst hn; exact hn2
    have hn' : ((l.take (i + 1)).filter okE).length = n + 1 := by rw [e2, List.length_append, ← hn]; rfl
    rw [← hn] at q4 hgr hle hlen
    clear hn1 hn2
    (simp (disch := first | decide | omega | (simp only [nx]; first | done | omega)) only [go_sem, q0, q3, q4, q5, b1, b2, b3, hlt, ce, bin_rem8]; (repeat with_reducible refine aI ?_))
    refine dIf_cut (fun f' S' => f' 5 = .v (.int .i64 ((i : Nat) : Int)) ∧ f' 4 = .v (.int .i64 ((n : Nat) : Int)) ∧ f' 0 = .sl ownA (l.map encB) ∧ S'.WF ∧ S.Sub S' ∧ ∃ k c es0 o zs, f' 3 = .win k 0 (es0.length + 1) c ∧ S.next ≤ k ∧ S'.ob k = some (.box 26 (flat (es0 ++ [encX 3 (.sl .full []) (.sl o (((s.drop (8 * (n / 8))).take (n % 8)).map encB))]) ++ zs)) ∧
      (flat (es0 ++ [encX 3 (.sl .full []) (.sl o (((s.drop (8 * (n / 8))).take (n % 8)).map encB))]) ++ zs).length = c * 68 ∧ (∀ d ∈ es0, d.width = 68) ∧ es0.map D.frz = (List.range (n / 8)).map (fun j => encMs (giveM (chunk8 s j))) ∧ ((o = .full ∧ n % 8 = 0) ∨ ∃ g, o = .row g ∧ S'.ob g = some (.row 29 (n % 8)) ∧ S.next ≤ g)) ?_ ?_
    · refine dIf_both (fun hb => ?_) (fun hb => ?_)
      · have h8 : n % 8 = 0 := by have := beq_iff_eq.1 hb; omega
        have ei : ((s.drop (8 * (n / 8))).take (n % 8)).map encB = [] := by rw [h8]; simp
        obtain ⟨es0, tail, rfl, e1, e2⟩ := hgr.ex
        obtain rfl : tail = [] := by rcases e2 with e2 | e2; exact e2.2; omega
        rw [List.append_nil] at hd hlen hgr
        (simp (disch := first | decide | omega | (simp only [nx]; first | done | omega)) only [go_sem, q3, agg_X3, width_encX, okCell_encX, cl_encX]; (repeat with_reducible refine aI ?_))
        refine dapp_ownD (es2 := [encX 3 (.sl .full []) (.sl .full [])]) elMs (by rw [elMs]; rfl) zeMs zoMs hd (by rw [szMs]; exact hgr.w) (by rw [szMs]; intro d hd; obtain rfl := List.mem_singleton.1 hd; exact width_encX 3 (.sl .full []) (.sl .full [])) (by simp only [List.length_singleton]; omega) (by simp only [List.length_singleton, byMs]; omega) fun c' zs' hz => ?_
        rw [szMs] at hz
        have hc' : 0 < c' := by
          have h1 : (flat (es0 ++ [encX 3 (.sl .full []) (.sl .full [])])).length = (es0.length + 1) * 68 := by
            rw [dflat_length (z := 68), List.length_append]; rfl
            intro d hd
            rcases List.mem_append.1 hd with h | h
            · exact hgr.w d h
            · obtain rfl := List.mem_singleton.1 h; exact width_encX _ _ _
          rw [List.length_append, h1] at hz
          omega
        obtain ⟨l1, l2, l3⟩ := left_ok hS hT hsub hd hdk
        rw [ownOb_box hc']
        (simp (disch := first | decide | omega | (simp only [nx]; first | done | omega)) only [go_sem, q0, q3, q4, q5]; (repeat with_reducible refine aI ?_))
        rw [ei]
        exact ⟨l2.add _, l1.add hS _, T.next, c', es0, .full, zs', rfl, hsub.next, by (first | (simp (disch := first | decide | omega | (simp only [nx]; first | done | omega)) only [go_sem, l3]; first | done | rfl) | rfl), hz, hgr.w, e1, .inl ⟨rfl, h8⟩⟩
      · have h8 : 0 < n % 8 := by
          have := beq_eq_false_iff_ne.1 hb
          omega
        obtain ⟨es0, tail, rfl, e1, e2⟩ := hgr.ex
        obtain ⟨_, g, rfl, hg, hgl⟩ := e2.resolve_left (by omega)
        (simp (disch := first | decide | omega | (simp only [nx]; first | done | omega)) only [go_sem, q0, q3, q4, q5]; (repeat with_reducible refine aI ?_))
        rcases hd with ⟨hn, _⟩ | ⟨k, c, zs, rfl, hk, hz, hkn⟩
        · exact absurd hn (by simp)
        rw [szMs] at hz
        have hc' : 0 < c := by
          rw [List.length_append, dflat_length (z := 68) hgr.w, List.length_append, List.length_singleton] at hz
          omega
        rw [ownOb_box hc'] at hk
        exact ⟨k, c, es0, .row g, zs, by rw [List.length_append]; rfl, hdk _ _ _ rfl, hk, hz, fun d hd => hgr.w d (List.mem_append_left _ hd), e1, .inr ⟨g, rfl, hg, hgl⟩⟩
    · rintro f' T' ⟨f5, f4, f0, hT', hsub', k, c, es0, o, zs, f3, hk0, hk, hz, hw, hfz, ho⟩
      have hel : es0.length = n / 8 := by have := congrArg List.length hfz; simpa using this
      have wk : IntKind.i64.wrap (((es0.length + 1 : Nat) : Int) - 1) = (es0.length : Int) := (IntWalk.i64_in _ ⟨by omega, by omega⟩).trans (by omega)
      have wn : IntKind.i64.wrap ((n : Int) + 1) = ((n + 1 : Nat) : Int) := IntWalk.i64_in _ ⟨by omega, by omega⟩
      generalize hids : ((s.drop (8 * (n / 8))).take (n % 8)).map encB = ids at *
      have hil : ids.length = n % 8 := by rw [← hids, List.length_map, List.length_take, List.length_drop]; omega
      have hiw : ∀ d ∈ ids, d.width = 1 := by rw [← hids]; intro d hd; obtain ⟨m, _, rfl⟩ := List.mem_map.1 hd; exact width_encB m
      have hkl := hT'.lt hk
      have hgx := getX1 3 hw (.sl .full []) (.sl o ids) zs
      have hln : es0.length * 68 + 68 ≤ c * 68 := by
        rw [flatX, List.length_append, flatX_len 3 hw] at hz
        simp only [List.length_cons] at hz
        omega
      have ee : D.sl .no (l[i].map bD) = encB l[i] := rfl
      (simp (disch := first | decide | omega | (simp only [nx]; first | done | omega)) only [go_sem, f0, f3, f4, f5, wk, wn]; (repeat with_reducible refine aI ?_))
      refine ddraw_any (fun S' => S'.ob k = some (.box 26 (flat (es0 ++ [encX 3 (.sl .full []) (.sl o ids)]) ++ zs))) 15 (by (first | (simp (disch := first | decide | omega | (simp only [nx]; first | done | omega)) only [go_sem, hk]; first | done | rfl) | rfl)) (by kernel_rfl) ?_
      (refine s_take 0 rfl (by kernel_rfl) (by kernel_rfl) (v := ?v1) (fun S' hz => dquietR_of ?h1) <| s_take 1 rfl (by kernel_rfl) (by kernel_rfl) (v := ?v2) (fun S' hz => dquietR_of ?h2) <| s_take 2 rfl (by kernel_rfl) (by kernel_rfl) (v := ?v3) (fun S' hz => dquietR_of ?h3) <| s_take 3 rfl (by kernel_rfl) (by kernel_rfl) (v := ?v4) (fun S' hz => dquietR_of ?h4) <| s_take 4 rfl (by kernel_rfl) (by kernel_rfl) (v := ?v5) (fun S' hz => dquietR_of ?h5) <| s_take 5 rfl (by kernel_rfl) (by kernel_rfl) (v := ?v6) (fun S' hz => dquietR_of ?h6) <| s_take 6 rfl (by kernel_rfl) (by kernel_rfl) (v := ?v7) (fun S' hz => dquietR_of ?h7) <| ?k7; (case h1 | h2 | h3 | h4 | h5 | h6 | h7 => ((simp (disch := first | decide | omega | (simp only [nx]; first | done | omega)) only [go_sem, f0, f3, f4, f5, hgx, hz]; (repeat with_reducible refine aI ?_)); first | done | exact rfl | omega)))
      (refine s_take 7 rfl (by kernel_rfl) (by kernel_rfl) (v := ?v8) (fun S' hz => dquietR_of ?h8) <| s_take 8 rfl (by kernel_rfl) (by kernel_rfl) (v := ?v9) (fun S' hz => dquietR_of ?h9) <| s_take 9 rfl (by kernel_rfl) (by kernel_rfl) (v := ?v10) (fun S' hz => dquietR_of ?h10) <| s_take 10 rfl (by kernel_rfl) (by kernel_rfl) (v := ?v11) (fun S' hz => dquietR_of ?h11) <| s_take 11 rfl (by kernel_rfl) (by kernel_rfl) (v := ?v12) (fun S' hz => dquietR_of ?h12) <| ?k12; (case h8 | h9 | h10 | h11 | h12 => ((simp (disch := first | decide | omega | (simp only [nx]; first | done | omega)) only [go_sem, f0, f3, f4, f5, hgx, hlt, ce, hz]; (repeat with_reducible refine aI ?_)); first | done | exact rfl | omega)))
      (refine s_split [12] (by kernel_rfl) (by simp) ?_; intro j_ hj_; obtain rfl : j_ = 12 := (by simpa using hj_); clear hj_; refine s_op rfl ?_; (simp (disch := first | decide | omega | (simp only [nx]; first | done | omega)) only [go_sem, hgx]; (repeat with_reducible refine aI ?_)))
      have hor : (o = .full ∧ ids = []) ∨ ∃ g, o = .row g ∧ T'.ob g = some (.row 29 ids.length) := by
        rcases ho with ⟨h1, h2⟩ | ⟨g, h1, h2, _⟩
        · exact .inl ⟨h1, List.eq_nil_of_length_eq_zero (by omega)⟩
        · exact .inr ⟨g, h1, by rw [hil]; exact h2⟩
      refine dapp_es hor (by omega) hiw (width_encB l[i]) ?_
      have hgk : (T'.grow o 29 (ids.length + 1)).ob k = some (.box 26 (flat (es0 ++ [encX 3 (.sl .full []) (.sl o ids)]) ++ zs)) := by
        have h3 : k ≠ T'.next := by omega
        rcases ho with ⟨rfl, _⟩ | ⟨g, rfl, h2, _⟩
        · simp [St.grow, St.leave, St.add, h3, hk]
        · have h4 : k ≠ g := fun e => by rw [e, h2] at hk; cases hk
          simp [St.grow, St.leave, St.add, St.drop, h3, h4, hk]
      have hgr2 : (T'.grow o 29 (ids.length + 1)).ob T'.next = some (.row 29 (ids.length + 1)) := by
        rcases ho with ⟨rfl, _⟩ | ⟨g, rfl, h2, _⟩ <;> simp [St.grow, St.leave, St.add, St.drop]
      have hgs : S.Sub (T'.grow o 29 (ids.length + 1)) ∧ (T'.grow o 29 (ids.length + 1)).next = T'.next + 1 := by
        rcases ho with ⟨rfl, _⟩ | ⟨g, rfl, h2, hl⟩
        · exact ⟨hsub'.add hS _, rfl⟩
        · exact ⟨(hsub'.drop hS hl).add hS _, rfl⟩
      generalize T'.grow o 29 (ids.length + 1) = T2 at *
      refine ⟨hgk, ?_⟩
      (refine s_take 13 rfl (by kernel_rfl) (by kernel_rfl) (v := ?v13) (fun S' hz => dquietR_of ?h13) <| s_take 14 rfl (by kernel_rfl) (by kernel_rfl) (v := ?v14) (fun S' hz => dquietR_of ?h14) <| ?k14; (case h13 | h14 => ((simp (disch := first | decide | omega | (simp only [nx]; first | done | omega)) only [go_sem, f0, f3, f4, f5, hz]; (repeat with_reducible refine aI ?_)); first | done | exact rfl | omega)))
      have hsx := setX1 3 hw (.sl .full []) (.sl o ids) (.sl (.row T'.next) (ids ++ [encB l[i]])) zs
      (refine s_done (by kernel_rfl) ?_; (simp (disch := first | decide | omega | (simp only [nx]; first | done | omega)) only [go_sem, hgk, f0, f3, f4, f5, w1, ee, hsx]; (repeat with_reducible refine aI ?_)))
      refine ⟨by omega, _, fun _ _ h => h, by omega, by (first | (simp (disch := first | decide | omega | (simp only [nx]; first | done | omega)) only [go_sem, w1]; first | done | rfl) | rfl), by rw [hn']; (first | (simp (disch := first | decide | omega | (simp only [nx]; first | done | omega)) only [go_sem, wn]; first | done | rfl) | rfl), ?_, _, es0 ++ [encX 3 (.sl .full []) (.sl (.row T'.next) (ids ++ [encB l[i]]))], by (first | (simp (disch := first | decide | omega | (simp only [nx]; first | done | omega)) only [go_sem, f3]; first | done | rfl) | rfl), .inr ⟨k, c, zs, by rw [List.length_append]; rfl, ?_, ?_, ?_⟩, ?_, ?_⟩
      · exact hgs.1.set hS hk0 _
      · show (T2.set k _).ob k = _
        rw [ownOb_box (by omega)]
        simp [St.set]
      · rw [szMs]
        rw [flatX] at hz ⊢
        simp only [List.length_append, List.length_cons] at hz ⊢
        exact hz
      · show k < T2.next
        omega
      · intro k2 n2 c2 e
        injection e with e
        omega
      · rw [hn']
        have hh := GrpG.next (T := T2.set k (.box 26 (flat (es0 ++ [encX 3 (.sl .full []) (.sl (.row T'.next) (ids ++ [encB l[i]]))]) ++ zs))) (g := T'.next) (lo := S.next) hn1' hfz hw ?_ hsub'.next
        · rw [hids, hn2'] at hh; exact hh
        · rw [hil] at hgr2
          have : T'.next ≠ k := by omega
          simp [St.set, this, hgr2]
  · have b1 : decide ((i : Int) < (l.length : Int)) = false := decide_eq_false (by omega)
    have et : l.take i = l := List.take_of_length_le (by omega)
    rw [et] at q4 hgr
    rw [← hs] at hgr
    (simp (disch := first | decide | omega | (simp only [nx]; first | done | omega)) only [go_sem, q0, q3, q4, q5, b1]; (repeat with_reducible refine aI ?_))
    have hfin : frzL es = (givesM l).map encMs := by
      rw [frzL_map, hgr.fin, givesM, ← hs, List.map_map]; rfl
    rcases hd with ⟨rfl, rfl⟩ | ⟨k, c, zs, rfl, hk, hz, hkn⟩
    · exact ⟨T, _, Thaw.refl _ _ _, by rw [← hfin]; rfl, hsub⟩
    · refine ⟨_, .sl .no es, thaw_own hk (ownOb_len (by rw [szMs]; exact hgr.w) (by rw [szMs]; omega) hz) (by rw [szMs]; omega) (by rw [szMs]; exact hgr.w) (by simp only [D.thaw, Nat.beq_refl, Bool.and_self, cond_true]), by rw [← hfin]; rfl, hsub.drop hS (hdk _ _ _ rfl)⟩
end
end Go.Proofs.Ytonncfminojejaa

namespace Go.Proofs.Ytonncfminojejaa
open Go.RowKit
theorem dapp_rowW {P : Program} {S : St} {t tx ty e : TypeId} (he : elT P t = some e) (hx : (elT P tx).isSome = true) (hz : zeroT P e = true) {own : Own} {es es2 : List D} {k off n c : Nat} {K : D → St → Prop} (hs : SrcOk S (szOf P e) (.win k off n c) es2.length (flat es2)) (hw1 : ∀ d ∈ es, d.width = szOf P e) (hw2 : ∀ d ∈ es2, d.width = szOf P e)
    (hown : own = .full ∨ ∃ g, own = .row g ∧ S.ob g = some (.row e es.length)) (hlen : es.length + es2.length ≤ 140737488355328) (hby : (es.length + es2.length) * bytesOf P e ≤ 140737488355328) (hK : K (.sl (.row S.next) (es ++ es2)) (S.grow own e (es.length + es2.length))) : dapp P S t tx ty (.sl own es) (.win k off n c) K := by
  refine dapp_srcW fun base η w vs hM hr => ?_
  simp only [RepL] at hr
  obtain ⟨x1, _, rfl, r1, x2, _, rfl, r2, rfl⟩ := hr
  obtain ⟨us, ⟨⟨A, c', hv, hle, hA⟩, hl, h1⟩, hru⟩ := srcOk_at hM hs r2
  have hsrc : Src P (szOf P e) tx x2 es2.length us w := by
    obtain ⟨e', he'⟩ := Option.isSome_iff_exists.1 hx
    have hk := elT_spec he'
    subst hv
    rcases hA with ⟨rfl, h0⟩ | ⟨a, rfl, hc⟩
    · rw [h0, Nat.zero_mul] at hl
      have hu0 : us = [] := List.eq_nil_of_length_eq_zero hl
      rw [h0, hu0]
      exact Src.ofNil w hk c'
    · exact Src.ofSlice w hk a _ c' us hl hc h1
  obtain ⟨v', η', w', k1, k2, k3⟩ := append_stepS (ty := ty) hM r1 hsrc hru h1 he hz hw1 hw2 hown hlen hby
  exact ⟨_, _, η', v', w', k1, hK, k3, k2⟩
theorem flat_bD : ∀ l : List UInt8, flat (l.map bD) = l.map bD
  | [] => rfl
  | b :: l => by rw [List.map_cons, flat_cons, flat_bD l]; rfl
theorem dapp_bytesW {S : St} {ty : TypeId} {own : Own} {bs xs : List UInt8} {j off c : Nat} {K : D → St → Prop} (hs : SrcOk S 1 (.win j off xs.length c) xs.length (xs.map bD)) (h : (own = .full ∧ bs = []) ∨ ∃ g, own = .row g ∧ S.ob g = some (.row 5 bs.length)) (hl : bs.length + xs.length ≤ 1099511627776)
    (k : K (.sl (.row S.next) ((bs ++ xs).map bD)) (S.grow own 5 (bs.length + xs.length))) : dapp Try.prog S 29 29 ty (.sl own (bs.map bD)) (.win j off xs.length c) K := by
  refine dapp_rowW (es2 := xs.map bD) elBy (by rw [elBy]; rfl) zeBy (by rw [szBy, flat_bD, List.length_map]; exact hs) (by rw [szBy]; exact wBy bs) (by rw [szBy]; exact wBy xs) ?_ (by rw [List.length_map, List.length_map]; omega) (by rw [List.length_map, List.length_map, byBy]; omega) ?_
  · rcases h with ⟨rfl, _⟩ | ⟨g, rfl, h⟩
    · exact .inl rfl
    · exact .inr ⟨g, rfl, by rw [List.length_map]; exact h⟩
  · rw [List.map_append] at k
    rw [List.length_map, List.length_map]
    exact k
set_option maxRecDepth 200000 in
set_option maxHeartbeats 4000000 in
theorem raw_win {S : St} {k : Nat} {bs : List UInt8} {j off c : Nat} (xs : List UInt8) (hs : SrcOk S 1 (.win j off xs.length c) xs.length (xs.map bD)) (hk : k < S.next) (h : WAt k bs S) (hl : bs.length + xs.length ≤ 1099511627776) : DCalls Try.prog 24 [.loc k 0, .win j off xs.length c] S fun d T => d = undefD ∧ WAt k (bs ++ xs) T ∧ WFr k S T := by
  obtain ⟨own, h1, h2⟩ := h
  refine dcalls_inline mixed Try.func24 rfl (fun _ _ => by kernel_rfl) (rs := []) rfl (by kernel_rfl) (fun hS => ?_)
  (simp (disch := first | decide | omega | (simp only [nx]; first | done | omega)) only [go_sem, h1]; (repeat with_reducible refine aI ?_))
  have hk2 : (k = S.next) = False := by simp; omega
  rcases h2 with ⟨rfl, rfl⟩ | ⟨g, rfl, hg, h2⟩
  · refine dapp_bytesW hs (.inl ⟨rfl, rfl⟩) (by omega) ?_
    (simp (disch := first | decide | omega | (simp only [nx]; first | done | omega)) only [go_sem, hk2, h1]; (repeat with_reducible refine aI ?_))
    refine ⟨⟨.row S.next, by simp [St.set], .inr ⟨S.next, rfl, by omega, ?_⟩⟩, ⟨by simp [St.set, St.grow, St.leave, St.add], fun j' o hj e => ?_⟩⟩
    · simp [St.grow, St.leave, St.add, St.set, Ne.symm (show k ≠ S.next by omega)]
    · have hlt := hS.lt e
      have hj : j' ≠ k := by rcases hj with h | h; omega; exact h.1
      simp [St.grow, St.leave, St.add, St.set, hj, show j' ≠ S.next by omega, e]
  · have hkg : (k = g) = False := by simp; omega
    refine dapp_bytesW hs (.inr ⟨g, rfl, h2⟩) (by omega) ?_
    (simp (disch := first | decide | omega | (simp only [nx]; first | done | omega)) only [go_sem, hk2, hkg, h1]; (repeat with_reducible refine aI ?_))
    refine ⟨⟨.row S.next, by simp [St.set], .inr ⟨S.next, rfl, by omega, ?_⟩⟩, ⟨by simp [St.set, St.grow, St.leave, St.add, St.drop], fun j' o hj e => ?_⟩⟩
    · simp [St.grow, St.leave, St.add, St.set, St.drop, Ne.symm (show k ≠ S.next by omega)]
    · have hlt := hS.lt e
      have hjg : j' ≠ g := fun e2 => by
        rcases hj with h | ⟨_, t, cs, rfl⟩
        · omega
        · rw [e2, h2] at e; cases e
      have hj : j' ≠ k := by rcases hj with h | h; omega; exact h.1
      simp [St.grow, St.leave, St.add, St.set, St.drop, hj, hjg, show j' ≠ S.next by omega, e]
def headB (m : DMs) : List UInt8 := b8 m.k.toNat :: (if m.k = 1 then (if m.r then 1 else 0) :: m.f.1 else [])
def idsB2 (l : List H32) : List UInt8 := l.flatMap (·.1)
def esB (l : List (List UInt8)) : List UInt8 := l.flatMap fun b => numB b.length ++ b
def bytesM (m : DMs) : List UInt8 := headB m ++ numB (m.ids.length + m.es.length) ++ idsB2 m.ids ++ esB m.es
noncomputable def encRes25 (m : DMs) : D := if rightM m = true then .tup [.sl .no ((bytesM m).map bD), .v .nilIface] else .tup [.sl .no [], erD 1]
theorem encRes25_closed (m : DMs) : (encRes25 m).closed := by
  unfold encRes25
  split
  · have := closed_bB (bytesM m)
    simp only [D.closed, D.all, allL] at this ⊢
    exact ⟨this, trivial, trivial⟩
  · simp [D.closed, D.all, allL, Own.all, erD]
theorem right_kind {m : DMs} (h : rightM m = true) : m.k = 1 ∨ m.k = 2 ∨ m.k = 3 := by
  unfold rightM at h
  by_cases h1 : m.k = 1
  · exact .inl h1
  · by_cases h2 : m.k = 2
    · exact .inr (.inl h2)
    · by_cases h3 : m.k = 3
      · exact .inr (.inr h3)
      · rw [if_neg h1, if_neg h2, if_neg h3] at h; cases h
theorem right_es {m : DMs} (h : rightM m = true) : m.ids.length ≤ 64 ∧ m.es.length ≤ 8 ∧ ∀ b ∈ m.es, 1 ≤ b.length ∧ b.length ≤ 4096 := by
  unfold rightM at h
  by_cases h1 : m.k = 1
  · rw [if_pos h1] at h
    simp only [Bool.and_eq_true, decide_eq_true_eq] at h
    rw [h.2]
    exact ⟨h.1.1, by simp, fun b hb => by cases hb⟩
  · rw [if_neg h1] at h
    by_cases h2 : m.k = 2
    · rw [if_pos h2] at h
      simp only [batchN, Bool.and_eq_true, decide_eq_true_eq] at h
      rw [h.2]
      exact ⟨by omega, by simp, fun b hb => by cases hb⟩
    · rw [if_neg h2] at h
      by_cases h3 : m.k = 3
      · rw [if_pos h3] at h
        simp only [batchN, Bool.and_eq_true, decide_eq_true_eq, Bool.not_eq_true', List.any_eq_false] at h
        rw [h.1.1.2]
        refine ⟨by simp, by omega, fun b hb => ?_⟩
        have := h.2 b hb
        simp only [badE, Bool.or_eq_true, decide_eq_true_eq] at this
        omega
      · rw [if_neg h3] at h; cases h
theorem idsB2_take {l : List H32} {i : Nat} (h : i < l.length) : idsB2 (l.take (i + 1)) = idsB2 (l.take i) ++ l[i].1 := by
  rw [idsB2, List.take_succ_eq_append_getElem h, List.flatMap_append]; simp [idsB2]
theorem esB_take {l : List (List UInt8)} {i : Nat} (h : i < l.length) : esB (l.take (i + 1)) = esB (l.take i) ++ (numB l[i].length ++ l[i]) := by
  rw [esB, List.take_succ_eq_append_getElem h, List.flatMap_append]; simp [esB]
theorem idsB2_len : ∀ (l : List H32), (idsB2 l).length = 32 * l.length
  | [] => rfl
  | h :: l => by
    have := idsB2_len l
    show (h.1 ++ idsB2 l).length = _
    rw [List.length_append, h.2, this, List.length_cons]; omega
theorem esB_len : ∀ (l : List (List UInt8)), (∀ b ∈ l, b.length ≤ 4096) → (esB l).length ≤ 4200 * l.length
  | [], _ => Nat.le_refl _
  | b :: l, h => by
    have h1 := esB_len l fun x hx => h x (List.mem_cons_of_mem _ hx)
    have h2 := h b (List.mem_cons_self ..)
    have h3 := numB_length_le b.length (by omega)
    show ((numB b.length ++ b) ++ esB l).length ≤ _
    simp only [List.length_append, List.length_cons]
    omega
theorem add_setq (T : St) (o o' : Ob) : (T.add o).set T.next o' = T.add o' := by
  unfold St.add St.set
  congr 1
  funext j
  by_cases h : j = T.next <;> simp [h]
theorem srcOk_hash {S : St} {k c : Nat} {t : TypeId} {h : H32} (hk : S.ob k = some (.box t (h.1.map bD))) : SrcOk S 1 (.win k 0 32 c) 32 (h.1.map bD) := by
  have := srcOk_win (z := 1) (off := 0) (n := 32) (c := c) hk (by rw [len_encH]; omega)
  rwa [List.drop_zero, Nat.mul_one, take_hash] at this
theorem srcOk_filter {S : St} {k c : Nat} {t : TypeId} {m : DMs} (hk : S.ob k = some (.box t (msCs m))) : SrcOk S 1 (.win k 2 64 c) 64 (m.f.1.map bD) := by
  have := srcOk_win (z := 1) (off := 2) (n := 64) (c := c) hk (by rw [len_msCs]; omega)
  rwa [Nat.mul_one, f_msCs] at this
section
set_option maxRecDepth 200000
set_option maxHeartbeats 8000000
theorem encode25_d (m : DMs) (hi : m.ids.length ≤ 1000000) (he : m.es.length ≤ 1000000) : DPure Try.prog 9 [encMs m] (encRes25 m) := by
  refine dpure_of_dwp mixed Try.func9 rfl (fun _ _ => by kernel_rfl) (rs := [.tmp 2, .tmp 3]) rfl (by kernel_rfl) (encRes25_closed m) (fun S hS => ?_)
  (simp (disch := first | decide | omega | (simp only [nx]; first | done | omega)) only [go_sem]; (repeat with_reducible refine aI ?_))
  refine DCalls.of_pure (right25_d m hi he) ?_
  cases hrt : rightM m with
  | false =>
    (simp (disch := first | decide | omega | (simp only [nx]; first | done | omega)) only [go_sem]; (repeat with_reducible refine aI ?_))
    refine ⟨?_, (by (repeat' first | assumption | exact St.Sub.refl _ | exact RowOk.sub (by assumption) (by assumption) | refine St.Sub.trans ?_ (RowOk.sub (by assumption) (by assumption)) | refine St.Sub.add ?_ ?_ _ | refine St.Sub.set ?_ ?_ ?_ _ | refine St.Sub.keep ?_ ?_ | refine St.WF.leave ?_ _ | refine St.WF.add ?_ _ | refine St.WF.set ?_ ?_ _ | refine St.WF.grow ?_ _ _ _ | refine St.WF.keep ?_ ?_ | (first | omega | (simp only [RowOk.lo, nx]; first | done | omega))))⟩
    rw [encRes25, if_neg (by rw [hrt]; simp)]
    rfl
  | true =>
    obtain ⟨n, hn, hn3⟩ : ∃ n : Nat, m.k = (n : Int) ∧ n < 128 := by
      rcases right_kind hrt with h | h | h
      · exact ⟨1, h, by omega⟩
      · exact ⟨2, h, by omega⟩
      · exact ⟨3, h, by omega⟩
    obtain ⟨hids, hes, hbs⟩ := right_es hrt
    have wk : IntKind.u8.wrap m.k = ((b8 n).toNat : Int) := by
      rw [hn, wrap_u8]
      unfold b8
      rw [UInt8.toNat_ofNat']
      omega
    (simp (disch := first | decide | omega | (simp only [nx]; first | done | omega)) only [go_sem, cv_i64u8, wk]; (repeat with_reducible refine aI ?_))
    have hT0 : ((S.add (.box 26 (msCs m))).add (.box 53 [.sl .full []])).WF := (hS.add _).add _
    have tm : ((S.add (.box 26 (msCs m))).add (.box 53 [.sl .full []])).ob S.next = some (.box 26 (msCs m)) := by (first | (simp (disch := first | decide | omega | (simp only [nx]; first | done | omega)) only [go_sem]; first | done | rfl) | rfl)
    have tw : WAt (S.next + 1) [] ((S.add (.box 26 (msCs m))).add (.box 53 [.sl .full []])) := ⟨.full, by (first | (simp (disch := first | decide | omega | (simp only [nx]; first | done | omega)) only [go_sem]; first | done | rfl) | rfl), .inl ⟨rfl, rfl⟩⟩
    have ts : S.Sub ((S.add (.box 26 (msCs m))).add (.box 53 [.sl .full []])) := ((St.Sub.refl S).add hS _).add hS _
    obtain ⟨T0, hT0e⟩ : ∃ T, T = (S.add (.box 26 (msCs m))).add (.box 53 [.sl .full []]) := ⟨_, rfl⟩
    have tn : T0.next = S.next + 1 + 1 := by rw [hT0e]; rfl
    rw [← hT0e] at hT0 tm tw ts ⊢
    clear hT0e
    refine DCalls.mono (DCalls.wf (byte_w (b8 n) (by omega) tw (by simp))) ?_
    rintro _ T1 ⟨⟨rfl, h1, F1⟩, hT1⟩
    have z1 := F1.box S.next _ _ (by omega) tm
    (simp (disch := first | decide | omega | (simp only [nx]; first | done | omega)) only [go_sem, z1]; (repeat with_reducible refine aI ?_))
    refine dIf_cut (fun f' S' => f' 1 = .loc S.next 0 ∧ f' 4 = .loc (S.next + 1) 0 ∧ S'.WF ∧ WAt (S.next + 1) (headB m) S' ∧ WFr (S.next + 1) T0 S') ?_ ?_
    · refine dIf_both (fun hb => ?_) (fun hb => ?_)
      · have hk1 : m.k = 1 := beq_iff_eq.1 hb
        (simp (disch := first | decide | omega | (simp only [nx]; first | done | omega)) only [go_sem, z1]; (repeat with_reducible refine aI ?_))
        have n1 := F1.next
        refine DCalls.mono (DCalls.wf (bool_w m.r (by omega) h1 (by simp))) ?_
        rintro _ T2 ⟨⟨rfl, h2, F2⟩, hT2⟩
        have z2 := F2.box S.next _ _ (by omega) z1
        have n2 := F2.next
        (simp (disch := first | decide | omega | (simp only [nx]; first | done | omega)) only [go_sem, z2]; (repeat with_reducible refine aI ?_))
        have hlf := m.f.2
        have key := raw_win (S := T2) (k := S.next + 1) (j := S.next) (off := 2) (c := 64) m.f.1 (by rw [hlf]; exact srcOk_filter z2) (by omega) h2 (by simp [hlf])
        rw [hlf] at key
        refine DCalls.mono (DCalls.wf key) ?_
        rintro _ T3 ⟨⟨rfl, h3, F3⟩, hT3⟩
        (simp (disch := first | decide | omega | (simp only [nx]; first | done | omega)) only [go_sem]; (repeat with_reducible refine aI ?_))
        refine ⟨?_, F1.trans (F2.trans F3)⟩
        have e : headB m = [] ++ [b8 n] ++ [if m.r = true then 1 else 0] ++ m.f.1 := by
          rw [headB, if_pos hk1, hn]; simp
        rw [e]
        exact h3
      · have hk1 : ¬ m.k = 1 := beq_eq_false_iff_ne.1 hb
        (simp (disch := first | decide | omega | (simp only [nx]; first | done | omega)) only [go_sem]; (repeat with_reducible refine aI ?_))
        refine ⟨?_, F1⟩
        have e : headB m = [] ++ [b8 n] := by rw [headB, if_neg hk1, hn]; simp
        rw [e]
        exact h1
    · rintro f' T2 ⟨f1, f4, hT2, h2, F2⟩
      have z2 := F2.box S.next _ _ (by omega) tm
      have n2 := F2.next
      have wa : IntKind.i64.wrap ((m.ids.length : Int) + (m.es.length : Int)) = ((m.ids.length + m.es.length : Nat) : Int) := (IntWalk.i64_in _ ⟨by omega, by omega⟩).trans (by omega)
      have wu : IntKind.u64.wrap ((m.ids.length + m.es.length : Nat) : Int) = ((m.ids.length + m.es.length : Nat) : Int) := wrap_u64 _ (by unfold IsU64; omega)
      have hhl : (headB m).length ≤ 100 := by
        rw [headB]
        split
        · simp [m.f.2]
        · simp
      (simp (disch := first | decide | omega | (simp only [nx]; first | done | omega)) only [go_sem, f1, f4, z2, cv_i64u64, wa, wu]; (repeat with_reducible refine aI ?_))
      refine DCalls.mono (DCalls.wf (number_w (m.ids.length + m.es.length) (by unfold IsU64; omega) (by omega) h2 (by omega))) ?_
      rintro _ T3 ⟨⟨rfl, h3, F3'⟩, hT3⟩
      have F3 := F2.trans F3'
      have z3 := F3.box S.next _ _ (by omega) tm
      have n3 := F3.next
      (simp (disch := first | decide | omega | (simp only [nx]; first | done | omega)) only [go_sem, f1, f4, z3]; (repeat with_reducible refine aI ?_))
      have hnl := numB_length_le (m.ids.length + m.es.length) (by omega)
      refine dloop_up (fun t => List.contains [6, 38, 39, 40, 41, 42, 43, 44] t) (by kernel_rfl) (by exact hT3) m.ids.length (fun i q T => i ≤ m.ids.length ∧ q 38 = .v (.int .i64 ((i : Nat) : Int)) ∧ WAt (S.next + 1) (headB m ++ numB (m.ids.length + m.es.length) ++ idsB2 (m.ids.take i)) T ∧ WFr (S.next + 1) T0 T)
        ⟨by omega, by (first | (simp (disch := first | decide | omega | (simp only [nx]; first | done | omega)) only [go_sem]; first | done | rfl) | rfl), by rw [List.take_zero]; simpa [idsB2] using h3, F3⟩ ?_
      rintro i q T4 hT4 hg ⟨le, q38, h4, F4⟩
      (have q1 := hg 1 rfl; have q2 := hg 2 rfl; have q3 := hg 3 rfl; have q4 := hg 4 rfl; have q36 := hg 36 rfl; have q37 := hg 37 rfl; simp (disch := first | decide | omega | (simp only [nx]; first | done | omega)) only [go_sem, f1, f4] at q1 q2 q3 q4 q36 q37; clear hg)
      have z4 := F4.box S.next _ _ (by omega) tm
      have n4 := F4.next
      have hil := idsB2_len (m.ids.take i)
      rw [List.length_take] at hil
      by_cases hlt : i < m.ids.length
      · have b1 : decide ((i : Int) < (m.ids.length : Int)) = true := decide_eq_true (by omega)
        have w1 : IntKind.i64.wrap ((i : Int) + 1) = ((i + 1 : Nat) : Int) := IntWalk.i64_in _ ⟨by omega, by omega⟩
        have lh := m.ids[i].2
        (simp (disch := first | decide | omega | (simp only [nx]; first | done | omega)) only [go_sem, q4, q36, q37, q38, b1, hlt, lh]; (repeat with_reducible refine aI ?_))
        rw [add_setq]
        have hob : (T4.add (.box 44 (m.ids[i].1.map bD))).ob T4.next = some (.box 44 (m.ids[i].1.map bD)) := by (first | (simp (disch := first | decide | omega | (simp only [nx]; first | done | omega)) only [go_sem]; first | done | rfl) | rfl)
        have h5 := h4.add hT4 (.box 44 (m.ids[i].1.map bD))
        have F5 := F4.add hT4 (.box 44 (m.ids[i].1.map bD))
        have hT5 := hT4.add (.box 44 (m.ids[i].1.map bD))
        have key := raw_win (S := T4.add (.box 44 (m.ids[i].1.map bD))) (k := S.next + 1) (j := T4.next) (off := 0) (c := 32) m.ids[i].1 (by rw [lh]; exact srcOk_hash hob) (by show S.next + 1 < T4.next + 1; omega) h5 (by simp only [List.length_append, lh]; omega)
        rw [lh] at key
        refine DCalls.mono (DCalls.wf key) ?_
        rintro _ T6 ⟨⟨rfl, h6, F6⟩, hT6⟩
        (simp (disch := first | decide | omega | (simp only [nx]; first | done | omega)) only [go_sem, q4, q38, w1]; (repeat with_reducible refine aI ?_))
        refine ⟨by omega, T6.ob, fun _ _ h => h, by omega, by (first | (simp (disch := first | decide | omega | (simp only [nx]; first | done | omega)) only [go_sem, w1]; first | done | rfl) | rfl), ?_, F5.trans F6⟩
        rw [idsB2_take hlt, ← List.append_assoc]
        exact h6
      · have b1 : decide ((i : Int) < (m.ids.length : Int)) = false := decide_eq_false (by omega)
        have et : m.ids.take i = m.ids := List.take_of_length_le (by omega)
        rw [et] at h4
        (simp (disch := first | decide | omega | (simp only [nx]; first | done | omega)) only [go_sem, q1, q4, q36, q37, q38, b1, z4]; (repeat with_reducible refine aI ?_))
        refine dloop_up (fun t => List.contains [8, 48, 49, 50, 51, 52, 53, 54] t) (by kernel_rfl) (by exact hT4) m.es.length (fun i q T => i ≤ m.es.length ∧ q 48 = .v (.int .i64 ((i : Nat) : Int)) ∧ WAt (S.next + 1) (headB m ++ numB (m.ids.length + m.es.length) ++ idsB2 m.ids ++ esB (m.es.take i)) T ∧ WFr (S.next + 1) T0 T)
          ⟨by omega, by (first | (simp (disch := first | decide | omega | (simp only [nx]; first | done | omega)) only [go_sem]; first | done | rfl) | rfl), by rw [List.take_zero]; simpa [esB] using h4, F4⟩ ?_
        rintro j p T5 hT5 hgz ⟨lez, q48, h5, F5⟩
        (have q2z := hgz 2 rfl; have q3z := hgz 3 rfl; have q4z := hgz 4 rfl; have q46z := hgz 46 rfl; have q47z := hgz 47 rfl; simp (disch := first | decide | omega | (simp only [nx]; first | done | omega)) only [go_sem, q1, q4] at q2z q3z q4z q46z q47z; clear hgz)
        have n5 := F5.next
        have hil2 := idsB2_len m.ids
        have hel := esB_len (m.es.take j) (fun b hb => (hbs b (List.mem_of_mem_take hb)).2)
        rw [List.length_take] at hel
        by_cases hlz : j < m.es.length
        · have b2 : decide ((j : Int) < (m.es.length : Int)) = true := decide_eq_true (by omega)
          have w2 : IntKind.i64.wrap ((j : Int) + 1) = ((j + 1 : Nat) : Int) := IntWalk.i64_in _ ⟨by omega, by omega⟩
          have ce := cells_encB m.es[j]
          have hbj := (hbs _ (List.getElem_mem hlz)).2
          (simp (disch := first | decide | omega | (simp only [nx]; first | done | omega)) only [go_sem, q4z, q46z, q47z, q48, b2, hlz, ce]; (repeat with_reducible refine aI ?_))
          refine DCalls.mono (DCalls.wf (bytes_w .no m.es[j] (by omega) h5 (by simp only [List.length_append]; omega))) ?_
          rintro _ T6 ⟨⟨rfl, h6, F6⟩, hT6⟩
          (simp (disch := first | decide | omega | (simp only [nx]; first | done | omega)) only [go_sem, q4z, q48, w2]; (repeat with_reducible refine aI ?_))
          refine ⟨by omega, T6.ob, fun _ _ h => h, by omega, by (first | (simp (disch := first | decide | omega | (simp only [nx]; first | done | omega)) only [go_sem, w2]; first | done | rfl) | rfl), ?_, F5.trans F6⟩
          rw [esB_take hlz, ← List.append_assoc]
          exact h6
        · have b2 : decide ((j : Int) < (m.es.length : Int)) = false := decide_eq_false (by omega)
          have et2 : m.es.take j = m.es := List.take_of_length_le (by omega)
          rw [et2] at h5 hel
          (simp (disch := first | decide | omega | (simp only [nx]; first | done | omega)) only [go_sem, q4z, q46z, q47z, q48, b2]; (repeat with_reducible refine aI ?_))
          refine DCalls.mono (out_w h5 (by simp only [List.length_append]; omega)) ?_
          rintro _ T6 ⟨o, rfl, h6, F6⟩
          (simp (disch := first | decide | omega | (simp only [nx]; first | done | omega)) only [go_sem]; (repeat with_reducible refine aI ?_))
          have F7 := F5.trans F6
          refine ⟨?_, ⟨by have := F7.next; have := ts.next; omega, fun j ob hj => F7.ob j ob (.inl (by have := hS.lt hj; omega)) (ts.ob j ob hj)⟩⟩
          rw [encRes25, if_pos hrt]
          simp only [D.frz, frzL, frz_bB, bytesM]
end
end Go.Proofs.Ytonncfminojejaa

namespace Go.Proofs.Ytonncfminojejaa
open Go.RowKit
def zH : H32 := ⟨List.replicate 32 0, by simp⟩
theorem agg_zH : D.agg [D.v (.int .u8 0), D.v (.int .u8 0), D.v (.int .u8 0), D.v (.int .u8 0), D.v (.int .u8 0), D.v (.int .u8 0), D.v (.int .u8 0), D.v (.int .u8 0), D.v (.int .u8 0), D.v (.int .u8 0), D.v (.int .u8 0), D.v (.int .u8 0), D.v (.int .u8 0), D.v (.int .u8 0), D.v (.int .u8 0), D.v (.int .u8 0), D.v (.int .u8 0), D.v (.int .u8 0), D.v (.int .u8 0), D.v (.int .u8 0), D.v (.int .u8 0), D.v (.int .u8 0), D.v (.int .u8 0), D.v (.int .u8 0), D.v (.int .u8 0), D.v (.int .u8 0), D.v (.int .u8 0), D.v (.int .u8 0), D.v (.int .u8 0), D.v (.int .u8 0), D.v (.int .u8 0), D.v (.int .u8 0)] = encH zH := by kernel_rfl
theorem agg_hA : D.agg [D.v (.int .u8 1), D.v (.int .u8 0), D.v (.int .u8 0), D.v (.int .u8 0), D.v (.int .u8 0), D.v (.int .u8 0), D.v (.int .u8 0), D.v (.int .u8 0), D.v (.int .u8 0), D.v (.int .u8 0), D.v (.int .u8 0), D.v (.int .u8 0), D.v (.int .u8 0), D.v (.int .u8 0), D.v (.int .u8 0), D.v (.int .u8 0), D.v (.int .u8 0), D.v (.int .u8 0), D.v (.int .u8 0), D.v (.int .u8 0), D.v (.int .u8 0), D.v (.int .u8 0), D.v (.int .u8 0), D.v (.int .u8 0), D.v (.int .u8 0), D.v (.int .u8 0), D.v (.int .u8 0), D.v (.int .u8 0), D.v (.int .u8 0), D.v (.int .u8 0), D.v (.int .u8 0), D.v (.int .u8 0)] = encH hA := by kernel_rfl
theorem agg_X0 (x y : D) : D.agg [.v (.int .i64 0), .v (.bool false), D.v (.int .u8 0), D.v (.int .u8 0), D.v (.int .u8 0), D.v (.int .u8 0), D.v (.int .u8 0), D.v (.int .u8 0), D.v (.int .u8 0), D.v (.int .u8 0), D.v (.int .u8 0), D.v (.int .u8 0), D.v (.int .u8 0), D.v (.int .u8 0), D.v (.int .u8 0), D.v (.int .u8 0), D.v (.int .u8 0), D.v (.int .u8 0), D.v (.int .u8 0), D.v (.int .u8 0), D.v (.int .u8 0), D.v (.int .u8 0), D.v (.int .u8 0), D.v (.int .u8 0), D.v (.int .u8 0), D.v (.int .u8 0), D.v (.int .u8 0), D.v (.int .u8 0), D.v (.int .u8 0), D.v (.int .u8 0), D.v (.int .u8 0), D.v (.int .u8 0), D.v (.int .u8 0), D.v (.int .u8 0), D.v (.int .u8 0), D.v (.int .u8 0), D.v (.int .u8 0), D.v (.int .u8 0), D.v (.int .u8 0), D.v (.int .u8 0), D.v (.int .u8 0), D.v (.int .u8 0), D.v (.int .u8 0), D.v (.int .u8 0), D.v (.int .u8 0), D.v (.int .u8 0), D.v (.int .u8 0), D.v (.int .u8 0), D.v (.int .u8 0), D.v (.int .u8 0), D.v (.int .u8 0), D.v (.int .u8 0), D.v (.int .u8 0), D.v (.int .u8 0), D.v (.int .u8 0), D.v (.int .u8 0), D.v (.int .u8 0), D.v (.int .u8 0), D.v (.int .u8 0), D.v (.int .u8 0), D.v (.int .u8 0), D.v (.int .u8 0), D.v (.int .u8 0), D.v (.int .u8 0), D.v (.int .u8 0), D.v (.int .u8 0), x, y] = encX 0 x y := by kernel_rfl
theorem other_no (m : DMs) (h1 : m.r = false) (h2 : m.f = zF) : otherM m = false := by rw [otherM, h1, decide_eq_true h2]; rfl
theorem right_want {l : List H32} {i : Nat} (h : AscH l) (hi : i < (l.length + 7) / 8) : rightM (wantM (chunk8 l i)) = true := by
  obtain ⟨h1, h2⟩ := chunk8_pos hi
  have ha : AscH (chunk8 l i) := List.Pairwise.sublist ((List.take_sublist _ _).trans (List.drop_sublist _ _)) h
  have hk1 : ¬ (wantM (chunk8 l i)).k = 1 := by simp [wantM]
  have hb : batchN (chunk8 l i).length = true := by rw [batchN, decide_eq_true (by omega), decide_eq_true (by omega)]; rfl
  have hk2 : (wantM (chunk8 l i)).k = 2 := rfl
  rw [rightM, if_neg hk1, if_pos hk2, other_no _ rfl rfl]
  show (!false && batchN (chunk8 l i).length && riseH (chunk8 l i) && decide (([] : List (List UInt8)) = [])) = true
  rw [hb, riseH_asc ha]
  rfl
theorem right_give {l : List (List UInt8)} {i : Nat} (h : ∀ b ∈ l, okE b = true) (hi : i < (l.length + 7) / 8) : rightM (giveM (chunk8 l i)) = true := by
  obtain ⟨h1, h2⟩ := chunk8_pos hi
  have hk1 : ¬ (giveM (chunk8 l i)).k = 1 := by simp [giveM]
  have hk2 : ¬ (giveM (chunk8 l i)).k = 2 := by simp [giveM]
  have hb : batchN (chunk8 l i).length = true := by rw [batchN, decide_eq_true (by omega), decide_eq_true (by omega)]; rfl
  have hn : (chunk8 l i).any badE = false := List.any_eq_false.2 fun b hb' => by
    have := h b (List.mem_of_mem_drop (List.mem_of_mem_take hb'))
    simpa [okE] using this
  have hk3 : (giveM (chunk8 l i)).k = 3 := rfl
  rw [rightM, if_neg hk1, if_neg hk2, if_pos hk3, other_no _ rfl rfl]
  show (!false && decide (([] : List H32) = []) && batchN (chunk8 l i).length && !((chunk8 l i).any badE)) = true
  rw [hb, hn]
  rfl
theorem rights_w (l : List H32) : ∀ m ∈ wantsM l, rightM m = true := fun m hm => by
  obtain ⟨c, hc, rfl⟩ := List.mem_map.1 hm
  obtain ⟨i, hi, rfl⟩ := List.mem_map.1 hc
  exact right_want (ascH_sortH l) (List.mem_range.1 hi)
theorem rights_g (l : List (List UInt8)) : ∀ m ∈ givesM l, rightM m = true := fun m hm => by
  obtain ⟨c, hc, rfl⟩ := List.mem_map.1 hm
  obtain ⟨i, hi, rfl⟩ := List.mem_map.1 hc
  exact right_give (fun b hb => (List.mem_filter.1 hb).2) (List.mem_range.1 hi)
theorem wantsM_len (l : List H32) : (wantsM l).length ≤ l.length := by
  have := sortH_len l
  rw [wantsM, List.length_map, chunks8_length]; omega
theorem givesM_len (l : List (List UInt8)) : (givesM l).length ≤ l.length := by
  have := List.length_filter_le okE l
  rw [givesM, List.length_map, chunks8_length]; omega
section
set_option maxRecDepth 200000
set_option maxHeartbeats 8000000
theorem aw25r : rightM (wantM [zH]) = true := by
  have := right_want (l := [zH]) (i := 0) (by simp [AscH]) (by simp)
  simpa [chunk8] using this
theorem aw25b : bytesM (wantM [zH]) = [2, 1] ++ List.replicate 32 0 := by decide +kernel
theorem aw25w : (wantsM [hA, hA]).length = 1 := by decide +kernel
theorem awake25_d : DPure Try.prog 8 [] (.v (.bool true)) := by
  refine dpure_of_dwp mixed Try.func8 rfl (fun _ _ => by kernel_rfl) (rs := [.tmp 0]) rfl (by kernel_rfl) trivial (fun S hS => ?_)
  have lz := zH.2
  (simp (disch := first | decide | omega | (simp only [nx]; first | done | omega)) only [go_sem, placeH, agg_zH, agg_X2, lz, cl_encX]; (repeat with_reducible refine aI ?_))
  refine dcalls_argfrz ?_
  have e : frzL [encX 2 (.sl .full [encH zH]) (.sl .full [])] = [encMs (wantM [zH])] := congrArg (fun x => [x]) (frz_encX2 .full [zH] .full)
  rw [e]
  refine DCalls.of_pure (encode25_d (wantM [zH]) (by simp [wantM]) (by simp [wantM])) ?_
  rw [encRes25, if_pos aw25r]
  have hb34 : (bytesM (wantM [zH])).length = 34 := by rw [aw25b]; rfl
  have hb0 : (bytesM (wantM [zH]))[0]? = some 2 := by rw [aw25b]; rfl
  have hb1 : (bytesM (wantM [zH]))[1]? = some 1 := by rw [aw25b]; rfl
  generalize bytesM (wantM [zH]) = bs at *
  have c1 : ((bs.length : Int) == 34) = true := by rw [hb34]; rfl
  have h0 : 0 < bs.length := by omega
  have h1 : 1 < bs.length := by omega
  have g0 : bs[0] = 2 := by rw [List.getElem?_eq_getElem h0] at hb0; injection hb0
  have g1 : bs[1] = 1 := by rw [List.getElem?_eq_getElem h1] at hb1; injection hb1
  have t0 : (((UInt8.toNat 2 : Nat) : Int) == 2) = true := by decide
  have t1 : (((UInt8.toNat 1 : Nat) : Int) == 1) = true := by decide
  have lA : hA.1.length = 32 := hA.2
  (simp (disch := first | decide | omega | (simp only [nx]; first | done | omega)) only [go_sem, bnil_eq, c1, h0, h1, placeH, agg_hA, bD, g0, g1, t0, t1, lA]; (repeat with_reducible refine aI ?_))
  refine DCalls.of_pure (wants_d .full [hA, hA] (by decide)) ?_
  have c2 : ((((wantsM [hA, hA]).length : Nat) : Int) == 1) = true := by rw [aw25w]; rfl
  (simp (disch := first | decide | omega | (simp only [nx]; first | done | omega)) only [go_sem, c2]; (repeat with_reducible refine aI ?_))
  refine ⟨?_, (by (repeat' first | assumption | exact St.Sub.refl _ | exact RowOk.sub (by assumption) (by assumption) | refine St.Sub.trans ?_ (RowOk.sub (by assumption) (by assumption)) | refine St.Sub.add ?_ ?_ _ | refine St.Sub.set ?_ ?_ ?_ _ | refine St.Sub.keep ?_ ?_ | refine St.WF.leave ?_ _ | refine St.WF.add ?_ _ | refine St.WF.set ?_ ?_ _ | refine St.WF.grow ?_ _ _ _ | refine St.WF.keep ?_ ?_ | (first | omega | (simp only [RowOk.lo, nx]; first | done | omega))))⟩
  rfl
theorem parts_d (l : List H32) (b : List (List UInt8)) (hb0 : b.length ≤ 140737488355328) (hb : ∀ x ∈ b, x.length ≤ 140737488355328) : DPure Try.prog 4 [.sl .no (l.map encH), .sl .no (b.map encB)] (.v (.bool true)) := by
  refine dpure_of_dwp mixed Try.func4 rfl (fun _ _ => by kernel_rfl) (rs := [.tmp 4]) rfl (by kernel_rfl) trivial (fun S hS => ?_)
  by_cases hl : l.length > 60
  · have b1 : decide ((l.length : Int) > 60) = true := decide_eq_true (by omega)
    (simp (disch := first | decide | omega | (simp only [nx]; first | done | omega)) only [go_sem, b1]; (repeat with_reducible refine aI ?_))
    refine DCalls.of_pure awake25_d ?_
    (simp (disch := first | decide | omega | (simp only [nx]; first | done | omega)) only [go_sem]; (repeat with_reducible refine aI ?_))
    refine ⟨?_, (by (repeat' first | assumption | exact St.Sub.refl _ | exact RowOk.sub (by assumption) (by assumption) | refine St.Sub.trans ?_ (RowOk.sub (by assumption) (by assumption)) | refine St.Sub.add ?_ ?_ _ | refine St.Sub.set ?_ ?_ ?_ _ | refine St.Sub.keep ?_ ?_ | refine St.WF.leave ?_ _ | refine St.WF.add ?_ _ | refine St.WF.set ?_ ?_ _ | refine St.WF.grow ?_ _ _ _ | refine St.WF.keep ?_ ?_ | (first | omega | (simp only [RowOk.lo, nx]; first | done | omega))))⟩
    rfl
  have b1 : decide ((l.length : Int) > 60) = false := decide_eq_false (by omega)
  by_cases hbl : b.length > 60
  · have b2 : decide ((b.length : Int) > 60) = true := decide_eq_true (by omega)
    (simp (disch := first | decide | omega | (simp only [nx]; first | done | omega)) only [go_sem, b1, b2]; (repeat with_reducible refine aI ?_))
    refine DCalls.of_pure awake25_d ?_
    (simp (disch := first | decide | omega | (simp only [nx]; first | done | omega)) only [go_sem]; (repeat with_reducible refine aI ?_))
    refine ⟨?_, (by (repeat' first | assumption | exact St.Sub.refl _ | exact RowOk.sub (by assumption) (by assumption) | refine St.Sub.trans ?_ (RowOk.sub (by assumption) (by assumption)) | refine St.Sub.add ?_ ?_ _ | refine St.Sub.set ?_ ?_ ?_ _ | refine St.Sub.keep ?_ ?_ | refine St.WF.leave ?_ _ | refine St.WF.add ?_ _ | refine St.WF.set ?_ ?_ _ | refine St.WF.grow ?_ _ _ _ | refine St.WF.keep ?_ ?_ | (first | omega | (simp only [RowOk.lo, nx]; first | done | omega))))⟩
    rfl
  have b2 : decide ((b.length : Int) > 60) = false := decide_eq_false (by omega)
  (simp (disch := first | decide | omega | (simp only [nx]; first | done | omega)) only [go_sem, b1, b2, agg_X0, width_encX, okCell_encX]; (repeat with_reducible refine aI ?_))
  refine dcalls_argfrz ?_
  have e : frzL [encX 0 (.sl .full []) (.sl .no (b.map encB))] = [encMs ⟨0, false, zF, [], b⟩] := by
    simp only [frzL, encX, encMs, msCs, msT, frz_agg, D.frz, frzL_append, frz_bB, frz_Es, List.map_nil]
  rw [e]
  refine DCalls.of_pure (great25_d ⟨0, false, zF, [], b⟩ hb0 hb) ?_
  cases hgr : greatM ⟨0, false, zF, [], b⟩ with
  | true =>
    (simp (disch := first | decide | omega | (simp only [nx]; first | done | omega)) only [go_sem]; (repeat with_reducible refine aI ?_))
    refine DCalls.of_pure awake25_d ?_
    (simp (disch := first | decide | omega | (simp only [nx]; first | done | omega)) only [go_sem]; (repeat with_reducible refine aI ?_))
    refine ⟨?_, (by (repeat' first | assumption | exact St.Sub.refl _ | exact RowOk.sub (by assumption) (by assumption) | refine St.Sub.trans ?_ (RowOk.sub (by assumption) (by assumption)) | refine St.Sub.add ?_ ?_ _ | refine St.Sub.set ?_ ?_ ?_ _ | refine St.Sub.keep ?_ ?_ | refine St.WF.leave ?_ _ | refine St.WF.add ?_ _ | refine St.WF.set ?_ ?_ _ | refine St.WF.grow ?_ _ _ _ | refine St.WF.keep ?_ ?_ | (first | omega | (simp only [RowOk.lo, nx]; first | done | omega))))⟩
    rfl
  | false =>
    obtain ⟨g1, g2, g3, g4⟩ := great_no hgr
    (simp (disch := first | decide | omega | (simp only [nx]; first | done | omega)) only [go_sem]; (repeat with_reducible refine aI ?_))
    refine DCalls.of_pure (wants_d .no l (by omega)) ?_
    (simp (disch := first | decide | omega | (simp only [nx]; first | done | omega)) only [go_sem]; (repeat with_reducible refine aI ?_))
    refine DCalls.of_pure (gives_d .no b (by omega)) ?_
    (simp (disch := first | decide | omega | (simp only [nx]; first | done | omega)) only [go_sem]; (repeat with_reducible refine aI ?_))
    refine DCalls.of_pure (rwants_d .no l (by omega)) ?_
    (simp (disch := first | decide | omega | (simp only [nx]; first | done | omega)) only [go_sem]; (repeat with_reducible refine aI ?_))
    have hwl := wantsM_len l
    have hgl := givesM_len b
    refine DCalls.of_pure (all25_d .no .no (wantsM l) (wantsM l) (by omega) ?_ ?_) ?_
    · intro m hm; exact Nat.le_trans (right_es (rights_w l m hm)).1 (by omega)
    · intro m hm; exact Nat.le_trans (right_es (rights_w l m hm)).2.1 (by omega)
    rw [decide_eq_true rfl]
    (simp (disch := first | decide | omega | (simp only [nx]; first | done | omega)) only [go_sem]; (repeat with_reducible refine aI ?_))
    refine DCalls.of_pure (rgives_d .no b (by omega)) ?_
    (simp (disch := first | decide | omega | (simp only [nx]; first | done | omega)) only [go_sem]; (repeat with_reducible refine aI ?_))
    refine DCalls.of_pure (all25_d .no .no (givesM b) (givesM b) (by omega) ?_ ?_) ?_
    · intro m hm; exact Nat.le_trans (right_es (rights_g b m hm)).1 (by omega)
    · intro m hm; exact Nat.le_trans (right_es (rights_g b m hm)).2.1 (by omega)
    rw [decide_eq_true rfl]
    (simp (disch := first | decide | omega | (simp only [nx]; first | done | omega)) only [go_sem]; (repeat with_reducible refine aI ?_))
    (refine dloop_st (fun t => List.contains [4, 7, 39, 40, 41, 42, 43, 44, 45, 46, 47, 48, 49, 50] t) (by kernel_rfl) ?_ ((wantsM l).length) (fun i f => i ≤ (wantsM l).length ∧ f 7 = .v (.int .i64 (i : Nat))) ?_ ?_; (exact (by (repeat' first | assumption | refine St.WF.leave ?_ _ | refine St.WF.add ?_ _ | refine St.WF.set ?_ ?_ _ | refine St.WF.grow ?_ _ _ _ | refine St.WF.keep ?_ ?_ | (first | omega | (simp only [RowOk.lo, nx]; first | done | omega))))); (exact ⟨(by omega), (by (first | (simp (disch := first | decide | omega | (simp only [nx]; first | done | omega)) only [go_sem]; first | done | rfl) | rfl))⟩); intro i g tn hn hT hg hI; obtain ⟨le, q7⟩ := hI; have q5 := hg 5 rfl; have q6 := hg 6 rfl; simp (disch := first | decide | omega | (simp only [nx]; first | done | omega)) only [go_sem] at q5 q6; clear hg; have hn' := hn; try simp only [add_next, set_next, grow_next, leave_next, drop_next] at hn')
    by_cases hlt : i < (wantsM l).length
    · have c1 : decide ((i : Int) < ((wantsM l).length : Int)) = true := decide_eq_true (by omega)
      have w1 : IntKind.i64.wrap ((i : Int) + 1) = ((i + 1 : Nat) : Int) := IntWalk.i64_in _ ⟨by omega, by omega⟩
      have hr := rights_w l _ (List.getElem_mem hlt)
      obtain ⟨r1, r2, _⟩ := right_es hr
      (simp (disch := first | decide | omega | (simp only [nx]; first | done | omega)) only [go_sem, q5, q7, c1, hlt]; (repeat with_reducible refine aI ?_))
      refine DCalls.of_pure (right25_d (wantsM l)[i] (by omega) (by omega)) ?_
      rw [hr]
      (simp (disch := first | decide | omega | (simp only [nx]; first | done | omega)) only [go_sem, q5, q7, w1]; (repeat with_reducible refine aI ?_))
      (refine ⟨by omega, (by (repeat' first | assumption | exact St.Sub.refl _ | exact RowOk.sub (by assumption) (by assumption) | refine St.Sub.trans ?_ (RowOk.sub (by assumption) (by assumption)) | refine St.Sub.add ?_ ?_ _ | refine St.Sub.set ?_ ?_ ?_ _ | refine St.Sub.keep ?_ ?_ | refine St.WF.leave ?_ _ | refine St.WF.add ?_ _ | refine St.WF.set ?_ ?_ _ | refine St.WF.grow ?_ _ _ _ | refine St.WF.keep ?_ ?_ | (first | omega | (simp only [RowOk.lo, nx]; first | done | omega)))), ?_⟩; refine ⟨by omega, ?_⟩; all_goals (try (first | (simp (disch := first | decide | omega | (simp only [nx]; first | done | omega)) only [go_sem, w1]; first | done | rfl) | rfl)))
    · have c1 : decide ((i : Int) < ((wantsM l).length : Int)) = false := decide_eq_false (by omega)
      (simp (disch := first | decide | omega | (simp only [nx]; first | done | omega)) only [go_sem, q5, q7, c1]; (repeat with_reducible refine aI ?_))
      have hsub1 : S.Sub ⟨tn, S.ob⟩ := ⟨hn, fun _ _ h => h⟩
      have hw1 : (St.mk tn S.ob).WF := hT
      generalize (St.mk tn S.ob) = T1 at *
      (refine dloop_st (fun t => List.contains [4, 8, 51, 52, 53, 54, 55, 56, 57, 58, 59, 60, 61, 62] t) (by kernel_rfl) ?_ ((givesM b).length) (fun iz f => iz ≤ (givesM b).length ∧ f 8 = .v (.int .i64 (iz : Nat))) ?_ ?_; (exact (by (repeat' first | assumption | refine St.WF.leave ?_ _ | refine St.WF.add ?_ _ | refine St.WF.set ?_ ?_ _ | refine St.WF.grow ?_ _ _ _ | refine St.WF.keep ?_ ?_ | (first | omega | (simp only [RowOk.lo, nx]; first | done | omega))))); (exact ⟨(by omega), (by (first | (simp (disch := first | decide | omega | (simp only [nx]; first | done | omega)) only [go_sem, q6]; first | done | rfl) | rfl))⟩); intro iz gz tnz hnz hTz hgz hIz; obtain ⟨lez, q8z⟩ := hIz; have q6z := hgz 6 rfl; simp (disch := first | decide | omega | (simp only [nx]; first | done | omega)) only [go_sem, q6] at q6z; clear hgz; have hnz' := hnz; try simp only [add_next, set_next, grow_next, leave_next, drop_next] at hnz')
      by_cases hlz : iz < (givesM b).length
      · have c2 : decide ((iz : Int) < ((givesM b).length : Int)) = true := decide_eq_true (by omega)
        have w2 : IntKind.i64.wrap ((iz : Int) + 1) = ((iz + 1 : Nat) : Int) := IntWalk.i64_in _ ⟨by omega, by omega⟩
        have hr := rights_g b _ (List.getElem_mem hlz)
        obtain ⟨r1, r2, _⟩ := right_es hr
        (simp (disch := first | decide | omega | (simp only [nx]; first | done | omega)) only [go_sem, q6z, q8z, c2, hlz]; (repeat with_reducible refine aI ?_))
        refine DCalls.of_pure (right25_d (givesM b)[iz] (by omega) (by omega)) ?_
        rw [hr]
        (simp (disch := first | decide | omega | (simp only [nx]; first | done | omega)) only [go_sem, q6z, q8z, w2]; (repeat with_reducible refine aI ?_))
        (refine ⟨by omega, (by (repeat' first | assumption | exact St.Sub.refl _ | exact RowOk.sub (by assumption) (by assumption) | refine St.Sub.trans ?_ (RowOk.sub (by assumption) (by assumption)) | refine St.Sub.add ?_ ?_ _ | refine St.Sub.set ?_ ?_ ?_ _ | refine St.Sub.keep ?_ ?_ | refine St.WF.leave ?_ _ | refine St.WF.add ?_ _ | refine St.WF.set ?_ ?_ _ | refine St.WF.grow ?_ _ _ _ | refine St.WF.keep ?_ ?_ | (first | omega | (simp only [RowOk.lo, nx]; first | done | omega)))), ?_⟩; refine ⟨by omega, ?_⟩; all_goals (try (first | (simp (disch := first | decide | omega | (simp only [nx]; first | done | omega)) only [go_sem, w2]; first | done | rfl) | rfl)))
      · have c2 : decide ((iz : Int) < ((givesM b).length : Int)) = false := decide_eq_false (by omega)
        (simp (disch := first | decide | omega | (simp only [nx]; first | done | omega)) only [go_sem, q6z, q8z, c2]; (repeat with_reducible refine aI ?_))
        refine DCalls.of_pure awake25_d ?_
        (simp (disch := first | decide | omega | (simp only [nx]; first | done | omega)) only [go_sem]; (repeat with_reducible refine aI ?_))
        exact ⟨rfl, Nat.le_trans hsub1.next hnz, hsub1.ob⟩
end
end Go.Proofs.Ytonncfminojejaa

namespace Go.Proofs.Ytonncfminojejaa
open Go.ChangeShapes Go.WideShapes Go.ChangeAt Go.RowKit
theorem messageParts_own : ownKnob Try.prog.godebug = none := by kernel_rfl
theorem messageParts_laidOut : laidOutB Try.prog = true := by kernel_rfl
set_option maxRecDepth 100000 in
theorem messageParts_lifted (os : Os) (started : os.Started) (H : Type) (enc : TypeId × Value → H) :
    ReturnsInHanded {} Try.checked os 4 .any (Rows.messagePartsSpec.pre6 enc Try.prog Try.f4 Rows.messagePartsRow.domain false) (Rows.messagePartsSpec.post enc Try.prog Try.f4 false true false false) := by
  refine returnsInHanded_of_change_sized (C := Try.checked) messageParts_own started (by kernel_rfl) Try.func4
    (ChangeSpec.witness6 (enc := enc) (C := Try.checked) false ⟨#[], #[.slice none 0 0, .slice none 0 0], []⟩ 8 (by kernel_rfl) (by kernel_rfl) (by kernel_rfl) (by kernel_rfl)) ?_
  intro W base args ds gs before hval0 hW hcnd hsz0 _
  have hval : ∀ (j : Nat) t v, Try.f4.params[j]? = some t → args[j]? = some v → Value.okWide Try.prog W .any base t v := hval0
  have hsz : (DataW.weightsEach Try.prog (Try.f4.params.toList ++ Rows.messagePartsSpec.plain.varTypes Try.prog) (ds ++ gs)).all (· ≤ reachBytes) = true := hsz0
  have hW' := hW
  obtain ⟨p, q, hA0, hV, rfl, hfz, hnd⟩ := hW
  have hA : DataW.TrodAll enc Try.prog W 0 (fun _ => true) true Try.f4.params.toList args.toList ds p := hA0
  obtain ⟨rfl, rfl⟩ := trodVars_none hV
  rw [Try.params4] at hA hval hsz
  have hA1 := hA
  obtain ⟨v0, vs0, d0, ds0, p0, q0, hargs, rfl, rfl, h0, r0⟩ := trodAll_cons hA
  obtain ⟨v1, vs1, d1, ds1, p1, q1, rfl, rfl, rfl, h1, r1⟩ := trodAll_cons r0
  obtain ⟨rfl, rfl, rfl⟩ := trodAll_nil r1
  obtain rfl : args = #[v0, v1] := by cases args; simp_all
  have z0 : Sized Try.prog 23 d0 := sized_of_each (j := 0) hsz rfl rfl
  have k0 : Value.okWide Try.prog W .any base 23 v0 := hval 0 _ _ rfl rfl
  have z1 : Sized Try.prog 24 d1 := sized_of_each (j := 1) hsz rfl rfl
  have k1 : Value.okWide Try.prog W .any base 24 v1 := hval 1 _ _ rfl rfl
  clear hA0 hval0 hsz hsz0 hval
  have key : Calls Try.prog 4 #[v0, v1] W (Gives (.bool true) W) := by
    obtain ⟨l, _, hl⟩ := open_names h0 z0 k0
    obtain ⟨b, hb, hb0, hbr⟩ := open_ess h1 z1 k1
    exact gives_of_dpure (vs := [v0, v1]) (parts_d l b (by omega) fun x hx => by have := hb x hx; omega) (by simp only [RepL]; exact ⟨_, _, rfl, hl _ _ fix_nil, _, _, rfl, hbr _ _ fix_nil, rfl⟩)
  refine key.mono fun e W' ⟨he, bel⟩ => ?_
  subst he
  exact ⟨_, rfl, _, _, _, [], _, [], hW', trodAll_mk1 (shut_bool Try.underlying4 _), trodAll_below messageParts_laidOut bel (by kernel_rfl) hA1, rfl, bel.frame _, fun h => by cases h⟩

theorem messageParts_holds : Rows.MessagePartsSaid :=
  OpenClaim.holds_of_wide 4 Try.f4 rfl rfl rfl rfl rfl rfl rfl ⟨rfl, rfl, rfl, rfl, rfl⟩ rfl rfl rfl rfl rfl (by kernel_rfl) Try.func4 (by kernel_rfl)
    (of_decide_eq_true (by kernel_rfl)) (by unfold Func.isWrapper; first | (rw [if_pos (by decide +kernel)]; kernel_rfl) | (rw [if_neg (by decide +kernel)]; exact ⟨rfl, rfl⟩))
    (fun os started H enc _ => messageParts_lifted os started H enc)
#print axioms messageParts_holds
end Go.Proofs.Ytonncfminojejaa
