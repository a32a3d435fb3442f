/- SchemaEncodes answers true for any schema, and leaves its argument as it was. Conditions: none but the statement's own. -/
import Derived.Test.YtbcabejdchkpmaaDoorE6
import Derived.LaidEql
import Derived.Stop.Asserts
import Derived.RowKitTokens
import Derived.Test.YtbcabejdchkpmaaDoorCards
import Derived.Test.YtbcabejdchkpmaaDoorTie
import Derived.SevenTiedAt
import Derived.RowKit
set_option linter.unusedVariables false
set_option linter.unusedSimpArgs false
namespace Go.Proofs.YtbcabejdchkpmaaDoor
open Go.RowKit
theorem cv_u8i64s (n : Int) : pureRun Tryd.prog (convert 5 3 (.int .u8 n)) = some (.int .i64 (IntKind.i64.wrap n)) := by kernel_rfl
theorem sword_split (m : Nat) (s : DSch) (j : Nat) : ∀ d, ∃ X, swordB m s (j + d) = swordB m s j ++ X
  | 0 => ⟨[], by simp⟩
  | d + 1 => by
    obtain ⟨X, h⟩ := sword_split m s j d
    exact ⟨X ++ _, by rw [← Nat.add_assoc, swordB_succ, h, List.append_assoc]⟩
theorem sword_at {m : Nat} {s : DSch} {j : Nat} {L rest : List UInt8} {i : Nat} (hd : L.drop i = sheadB s ++ swordB m s s.words.length ++ rest) (hj : j < s.words.length) :
    ∃ X, L.drop (i + (sheadB s).length + (swordB m s j).length) = (numB s.words[j].length ++ s.words[j]) ++ ((if s.kind = 5 then bytesS m (s.parts.getD j default) else []) ++ X) := by
  obtain ⟨X, h⟩ := sword_split m s (j + 1) (s.words.length - (j + 1))
  rw [show j + 1 + (s.words.length - (j + 1)) = s.words.length by omega, swordB_succ, getD_at hj] at h
  refine ⟨X ++ rest, ?_⟩
  rw [Nat.add_assoc, ← List.drop_drop, hd, h, ← List.length_append]
  have e : sheadB s ++ (swordB m s j ++ (numB s.words[j].length ++ s.words[j] ++ (if s.kind = 5 then bytesS m (s.parts.getD j default) else [])) ++ X) ++ rest = (sheadB s ++ swordB m s j) ++ ((numB s.words[j].length ++ s.words[j]) ++ ((if s.kind = 5 then bytesS m (s.parts.getD j default) else []) ++ (X ++ rest))) := by simp only [List.append_assoc]
  rw [e, List.drop_left]
theorem set_last {es : List D} {z y : D} {zs : List D} {n : Nat} (hn : n = es.length) (hw : ∀ d ∈ es, d.width = 3) (hz : z.cells.length = 3) (hy : y.cells.length = 3) :
    (flat (es ++ [z]) ++ zs).take (n * 3) ++ y.cells ++ (flat (es ++ [z]) ++ zs).drop (n * 3 + 3) = flat (es ++ [y]) ++ zs := by
  subst hn
  have hl : (flat es).length = es.length * 3 := dflat_length hw
  have e1 : flat (es ++ [z]) ++ zs = flat es ++ (z.cells ++ zs) := by rw [flat_append]; simp [flat]
  have e2 : flat (es ++ [y]) = flat es ++ y.cells := by rw [flat_append]; simp [flat]
  rw [e1, e2, ← hl, List.take_left, List.drop_append, List.drop_of_length_le (by omega), List.nil_append]
  have : (flat es).length + 3 - (flat es).length = z.cells.length := by omega
  rw [this, List.drop_left]
theorem set_swap {S : St} {a b : Nat} {x y : Ob} (h : b ≠ a) : (S.set a x).set b y = (S.set b y).set a x := by
  unfold St.set
  simp only [St.mk.injEq, true_and]
  funext j
  by_cases h1 : j = a <;> by_cases h2 : j = b <;> simp [h1, h2] <;> omega
theorem wLast (ps : List DSch) : ∀ d ∈ ps.map encS ++ [.agg szero], d.width = 3 := fun d hd => by
  rcases List.mem_append.1 hd with hd | hd
  · exact wSch _ _ hd
  · rw [List.mem_singleton] at hd; subst hd; rfl
theorem last_len {ps : List DSch} {p : DSch} {zs : List D} {n : Nat} (h : (flat (ps.map encS ++ [.agg szero]) ++ zs).length = n) : (flat ((ps ++ [p]).map encS) ++ zs).length = n := by
  rw [← h, List.length_append, List.length_append, dflat_length (wSch _), dflat_length (wLast _)]
  simp
theorem last_fit {ps : List DSch} {zs : List D} : ps.length * 3 + 3 ≤ (flat (ps.map encS ++ [.agg szero]) ++ zs).length := by
  rw [List.length_append, dflat_length (wLast _), List.length_append, List.length_map]
  show _ ≤ (ps.length + 1) * 3 + _
  omega
theorem last_set (ps : List DSch) (p : DSch) (zs : List D) : (flat (ps.map encS ++ [.agg szero]) ++ zs).take (ps.length * 3) ++ (encS p).cells ++ (flat (ps.map encS ++ [.agg szero]) ++ zs).drop (ps.length * 3 + 3) = flat ((ps ++ [p]).map encS) ++ zs := by
  rw [List.map_append]
  exact set_last (List.length_map _).symm (wSch _) rfl (by rw [encS_eq]; rfl)
set_option maxRecDepth 200000 in
theorem fin_sch {S T : St} {k q lo i : Nat} {L : List UInt8} {kd : Int} {ws : List Str} {ps : List DSch} {s : DSch} (h : SBx S k q lo L i kd ws ps T) (hp : SPl S k q lo) (hk : s.kind = kd) (hw : s.words = ws) (hps : s.parts = ps) :
    ∃ o1 dP, T.ob q = some (.box 53 [.v (.int .i64 kd), .sl o1 (ws.map strD), dP]) ∧ ∀ B : Ob, ∃ S1 d1, Thaw Tryd.prog (T.set S.next B) (.agg [.v (.int .i64 kd), .sl o1 (ws.map strD), dP]) S1 d1 ∧ d1.frz = encS s ∧ RAt k L i S1 ∧ RFr k S S1 := by
  obtain ⟨o1, dP, b1, b2, b3⟩ := h.box
  have p1 := hp.hk
  have p2 := hp.hq
  have p3 := hp.hlo
  have p4 := h.hlo
  refine ⟨o1, dP, b1, fun B => ?_⟩
  have hR : RAt k L i (T.set S.next B) := h.rd.obk (set_ne (by omega)) rfl
  have hF : RFr k S (T.set S.next B) := ⟨h.fr.next, fun j ob hj e => by have := hp.wf.lt e; exact (set_ne (by omega)).trans (h.fr.ob j ob hj e)⟩
  rcases b3 with ⟨rfl, rfl⟩ | ⟨a, c, zs, rfl, w2, w3, w4, w5, w6⟩
  · refine ⟨_, _, Thaw.refl _ _ _, ?_, hR, hF⟩
    simp only [D.frz, frzL, frz_strs]
    rw [encS_eq, hk, hw, hps]
    rfl
  · have hc := ownOb_len (wSch ps) (by omega) w3
    have hst := szSc
    refine ⟨_, _, thaw_own (k := a) (zs := zs) (c := c) (e := 53) (es := ps.map encS) (by rw [set_ne (by omega)]; exact w2) hc (by rw [hst]; omega) (by rw [hst]; exact wSch ps) rfl, ?_, hR.obk (show (if k = a then none else _) = _ by rw [if_neg (by omega)]) rfl, ⟨hF.next, fun j ob hj e => ?_⟩⟩
    · simp only [D.thaw, thawL, List.length_map, Nat.beq_refl, Bool.and_self, Bool.and_true, cond_true, D.frz, frzL, frz_strs]
      rw [encS_eq, hk, hw, hps, frzL_map, List.map_map]
      rw [show ps.map (D.frz ∘ encS) = ps.map encS from List.map_congr_left fun p _ => frz_encS p]
    · have := hp.wf.lt e
      show (if j = a then none else _) = _
      rw [if_neg (by omega)]
      exact hF.ob j ob hj e
set_option maxRecDepth 200000 in
set_option maxHeartbeats 32000000 in
theorem sread_r (m : Nat) : ∀ (s : DSch) {S : St} {k : Nat} {L rest : List UInt8} {i : Nat} (hr : rightS m s = true) (ho : okS s) (hk : k < S.next) (hR : RAt k L i S) (hL : L.length ≤ 1099511627776) (hi : i ≤ L.length) (hm : m ≤ 1000) (hb : L.drop i = bytesS m s ++ rest),
    DCalls Tryd.prog 78 [.loc k 0, .v (.int .i64 (m : Int))] S fun d T => d = encS s ∧ RAt k L (i + (bytesS m s).length) T ∧ RFr k S T := by
  induction m with
  | zero => intro s S k L rest i hr; cases hr
  | succ m ih =>
    intro s S k L rest i hr ho hk hR hL hi hm hb
    have hf := SF.of hr
    have hp := (okS_eq s).1 ho
    have hkk := hf.kind
    have hnw := hf.nw
    have hlen := congrArg List.length hb
    rw [List.length_drop, List.length_append] at hlen
    refine DCalls.frz (K := fun d T => d.frz = encS s ∧ RAt k L (i + (bytesS (m + 1) s).length) T ∧ RFr k S T) ?_ (fun d T h => h)
    refine DCalls.thaw ?_
    rw [bytesS_succ] at hb hlen ⊢
    rw [List.length_append, List.length_append] at hlen
    have wk : IntKind.i64.wrap ((skindB s).toNat : Int) = s.kind := by rw [skind_toNat hkk]; exact IntWalk.i64_in _ ⟨by omega, by omega⟩
    refine dcalls_inline mixed Tryd.func78 rfl (fun _ _ => by kernel_rfl) (rs := [.cell 4 53]) rfl (by kernel_rfl) (fun hS => ?_)
    have b0 : (((m + 1 : Nat) : Int) == 0) = false := by simp; omega
    (simp (disch := first | decide | omega | (simp only [nx]; first | done | omega)) only [go_sem, b0]; (repeat with_reducible refine aI ?_))
    obtain ⟨hb1, hvh⟩ : ∃ X, sheadB s = skindB s :: X := ⟨_, rfl⟩
    refine (byte_r (c := skindB s) (rest := hb1 ++ swordB m s s.words.length ++ stailB m s ++ rest) (by show k < S.next + 1; omega) (hR.keep (add_keep hS _)) hL hi (by rw [hb, hvh]; simp)).wf.mono ?_
    rintro _ T0 ⟨⟨rfl, h0, hF0⟩, hT0⟩
    have hn0 : S.next + 1 ≤ T0.next := hF0.next
    have z0 := hF0.box S.next _ _ (by omega) (add_eq (S := S))
    have hFS : RFr k S T0 := (RFr.add (RFr.refl k S) hS _).trans hF0
    (simp (disch := first | decide | omega | (simp only [nx]; first | done | omega)) only [go_sem, bD, cv_u8i64s, wk]; (repeat with_reducible refine aI ?_))
    obtain ⟨q, hq⟩ : ∃ q, q = T0.next := ⟨_, rfl⟩
    have hpl : SPl S k q (q + 1) := ⟨hS, hk, by omega, by omega⟩
    obtain ⟨T1, hT1e⟩ : ∃ T1 : St, T1 = (T0.add (.box 53 [.v (.int .i64 0), .sl .full [], .sl .full []])).set T0.next (.box 53 [.v (.int .i64 s.kind), .sl .full [], .sl .full []]) := ⟨_, rfl⟩
    have hkeep : ∀ j o, T0.ob j = some o → T1.ob j = some o := fun j o e => by
      have := hT0.lt e
      rw [hT1e, set_ne (by omega), add_ne this, e]
    have r1 : SBx S k q (q + 1) L (i + 1) s.kind [] [] T1 := ⟨by rw [hT1e]; exact (hT0.add _).set (by show T0.next < T0.next + 1; omega) _, h0.keep hkeep, hkeep _ _ z0, hFS.trans ⟨by rw [hT1e]; exact Nat.le_succ _, fun j o _ e => hkeep j o e⟩, by rw [hT1e, hq]; exact Nat.le_refl _, .full, .sl .full [], by rw [hT1e, hq]; exact set_eq, .inl ⟨rfl, rfl⟩, .inl ⟨rfl, rfl⟩⟩
    have u1 : T1.ob q = some (.box 53 [.v (.int .i64 s.kind), .sl .full [], .sl .full []]) := by rw [hT1e, hq]; exact set_eq
    rw [← hT1e, ← hq]
    clear hT1e hkeep z0 h0
    refine (err_r r1.rd).mono ?_
    rintro _ _ ⟨rfl, he⟩
    rw [he]
    clear he
    have hdr1 : L.drop (i + 1) = hb1 ++ swordB m s s.words.length ++ stailB m s ++ rest := by rw [← List.drop_drop, hb, hvh]; simp
    have hhl : (sheadB s).length = 1 + hb1.length := by rw [hvh, List.length_cons]; omega
    have hi1 : i + 1 ≤ L.length := by omega
    have hbw : L.drop i = sheadB s ++ swordB m s s.words.length ++ (stailB m s ++ rest) := by rw [hb]; simp only [List.append_assoc]
    by_cases e1 : s.kind = 1
    · have k1 : (s.kind == 1) = true := by simp; omega
      have k2 : (s.kind == 2) = false := by simp; omega
      have k3 : (s.kind == 3) = false := by simp; omega
      have k4 : (s.kind == 4) = false := by simp; omega
      have k5 : (s.kind == 5) = false := by simp; omega
      have k6 : (s.kind == 6) = false := by simp; omega
      have hw0 : s.words = [] := hf.nowords (by omega) (by omega)
      have hp0 : s.parts = [] := hf.noparts (by omega) (by omega)
      have hz1 : (sheadB s).length = 1 := by unfold sheadB; rw [if_neg (by omega)]; rfl
      have hz2 : (swordB m s s.words.length).length = 0 := by rw [hw0]; rfl
      have hz3 : (stailB m s).length = 0 := by unfold stailB; rw [if_neg (by omega)]; rfl
      (simp (disch := first | decide | omega | (simp only [nx]; first | done | omega)) only [go_sem, u1, k1, k2, k3, k4, k5, k6]; (repeat with_reducible refine aI ?_))
      obtain ⟨o9, dP9, x1, hfin⟩ := fin_sch (s := s) r1 hpl rfl hw0 hp0
      have zz := r1.zero
      refine (err_r r1.rd).mono ?_
      rintro _ _ ⟨rfl, he⟩
      rw [he]
      clear he
      (simp (disch := first | decide | omega | (simp only [nx]; first | done | omega)) only [go_sem, x1, zz, szero]; (repeat with_reducible refine aI ?_))
      obtain ⟨S9, d9, x2, x3, x4, x5⟩ := hfin _
      exact ⟨S9, d9, x2, x3, x4.obk rfl (by simp only [List.length_append]; omega), x5⟩
    by_cases e2 : s.kind = 2
    · have k1 : (s.kind == 1) = false := by simp; omega
      have k2 : (s.kind == 2) = true := by simp; omega
      have k3 : (s.kind == 3) = false := by simp; omega
      have k4 : (s.kind == 4) = false := by simp; omega
      have k5 : (s.kind == 5) = false := by simp; omega
      have k6 : (s.kind == 6) = false := by simp; omega
      have hw0 : s.words = [] := hf.nowords (by omega) (by omega)
      have hp0 : s.parts = [] := hf.noparts (by omega) (by omega)
      have hz1 : (sheadB s).length = 1 := by unfold sheadB; rw [if_neg (by omega)]; rfl
      have hz2 : (swordB m s s.words.length).length = 0 := by rw [hw0]; rfl
      have hz3 : (stailB m s).length = 0 := by unfold stailB; rw [if_neg (by omega)]; rfl
      (simp (disch := first | decide | omega | (simp only [nx]; first | done | omega)) only [go_sem, u1, k1, k2, k3, k4, k5, k6]; (repeat with_reducible refine aI ?_))
      obtain ⟨o9, dP9, x1, hfin⟩ := fin_sch (s := s) r1 hpl rfl hw0 hp0
      have zz := r1.zero
      refine (err_r r1.rd).mono ?_
      rintro _ _ ⟨rfl, he⟩
      rw [he]
      clear he
      (simp (disch := first | decide | omega | (simp only [nx]; first | done | omega)) only [go_sem, x1, zz, szero]; (repeat with_reducible refine aI ?_))
      obtain ⟨S9, d9, x2, x3, x4, x5⟩ := hfin _
      exact ⟨S9, d9, x2, x3, x4.obk rfl (by simp only [List.length_append]; omega), x5⟩
    by_cases e3 : s.kind = 3
    · have k1 : (s.kind == 1) = false := by simp; omega
      have k2 : (s.kind == 2) = false := by simp; omega
      have k3 : (s.kind == 3) = true := by simp; omega
      have k4 : (s.kind == 4) = false := by simp; omega
      have k5 : (s.kind == 5) = false := by simp; omega
      have k6 : (s.kind == 6) = false := by simp; omega
      have hw0 : s.words = [] := hf.nowords (by omega) (by omega)
      have hp0 : s.parts = [] := hf.noparts (by omega) (by omega)
      have hz1 : (sheadB s).length = 1 := by unfold sheadB; rw [if_neg (by omega)]; rfl
      have hz2 : (swordB m s s.words.length).length = 0 := by rw [hw0]; rfl
      have hz3 : (stailB m s).length = 0 := by unfold stailB; rw [if_neg (by omega)]; rfl
      (simp (disch := first | decide | omega | (simp only [nx]; first | done | omega)) only [go_sem, u1, k1, k2, k3, k4, k5, k6]; (repeat with_reducible refine aI ?_))
      obtain ⟨o9, dP9, x1, hfin⟩ := fin_sch (s := s) r1 hpl rfl hw0 hp0
      have zz := r1.zero
      refine (err_r r1.rd).mono ?_
      rintro _ _ ⟨rfl, he⟩
      rw [he]
      clear he
      (simp (disch := first | decide | omega | (simp only [nx]; first | done | omega)) only [go_sem, x1, zz, szero]; (repeat with_reducible refine aI ?_))
      obtain ⟨S9, d9, x2, x3, x4, x5⟩ := hfin _
      exact ⟨S9, d9, x2, x3, x4.obk rfl (by simp only [List.length_append]; omega), x5⟩
    by_cases e4 : s.kind = 4
    · have k1 : (s.kind == 1) = false := by simp; omega
      have k2 : (s.kind == 2) = false := by simp; omega
      have k3 : (s.kind == 3) = false := by simp; omega
      have k4 : (s.kind == 4) = true := by simp; omega
      have k5 : (s.kind == 5) = false := by simp; omega
      have k6 : (s.kind == 6) = false := by simp; omega
      have zk : (D.agg szero).okCell = true := by kernel_rfl
      have zl : szero.length = 3 := by kernel_rfl
      have za : ofV (.agg #[.int .i64 0, .slice none 0 0, .slice none 0 0]) = .agg szero := by kernel_rfl
      have heP : elT Tryd.prog 51 = some 53 := by kernel_rfl
      have hbP : bytesOf Tryd.prog 53 = 56 := by kernel_rfl
      have hzP : zeroT Tryd.prog 53 = true := by kernel_rfl
      have hzO : zeroOk Tryd.prog 53 = true := by kernel_rfl
      have wd : IntKind.i64.wrap (((m + 1 : Nat) : Int) - 1) = ((m : Nat) : Int) := by rw [IntWalk.i64_in _ ⟨by omega, by omega⟩]; omega
      have hhe : hb1 = numB s.words.length := by
        have := hvh
        unfold sheadB at this
        rw [if_pos (by omega)] at this
        injection this with _ this
        exact this.symm
      have hz3 : (stailB m s).length = 0 := by unfold stailB; rw [if_neg (by omega)]; rfl
      (simp (disch := first | decide | omega | (simp only [nx]; first | done | omega)) only [go_sem, u1, k1, k2, k3, k4, k5, k6]; (repeat with_reducible refine aI ?_))
      refine (scount_r (n := s.words.length) (least := 1) (rest := swordB m s s.words.length ++ (stailB m s ++ rest)) (by have := hpl.hk; have := r1.fr.next; omega) r1.rd hL hi1 (by rw [hdr1, hhe]; simp only [List.append_assoc]) hnw ((hf.k4 e4).1)).wf.mono ?_
      rintro _ T2 ⟨⟨rfl, h2, hF2⟩, hT2⟩
      have r2 := r1.call hpl h2 hF2 hT2
      have hn0' : (sheadB s).length = 1 + (numB s.words.length).length := by rw [hhl, hhe]
      (simp (disch := first | decide | omega | (simp only [nx]; first | done | omega)) only [go_sem]; (repeat with_reducible refine aI ?_))
      refine dloop_up (fun t => List.contains [30, 31, 32, 33, 34] t) (by kernel_rfl) (by exact hT2) s.words.length (fun j g T => j ≤ s.words.length ∧ g 30 = .v (.int .i64 ((j : Nat) : Int)) ∧ SBx S k q (q + 1) L (i + (sheadB s).length + (swordB m s j).length) s.kind (s.words.take j) (([] : List DSch)) T)
        ⟨by omega, by (first | (simp (disch := first | decide | omega | (simp only [nx]; first | done | omega)) only [go_sem]; first | done | rfl) | rfl), by rw [show i + (sheadB s).length + (swordB m s 0).length = i + 1 + (numB s.words.length).length by rw [hn0']; show i + _ + 0 = _; omega]; exact r2⟩ ?_
      rintro j g T hT hg ⟨le, qj, rj⟩
      (have q0 := hg 0 rfl; have q1 := hg 1 rfl; have q4 := hg 4 rfl; have q5 := hg 5 rfl; have q19 := hg 19 rfl; have q29 := hg 29 rfl; simp (disch := first | decide | omega | (simp only [nx]; first | done | omega)) only [go_sem] at q0 q1 q4 q5 q19 q29; clear hg)
      have hij : i + (sheadB s).length + (swordB m s j).length ≤ L.length := by
        obtain ⟨X, hX⟩ := sword_split m s j (s.words.length - j)
        rw [show j + (s.words.length - j) = s.words.length by omega] at hX
        rw [hX, List.length_append] at hlen
        omega
      by_cases hj : j < s.words.length
      · have b1 : decide ((j : Int) < (s.words.length : Int)) = true := by simp; omega
        have w1 : IntKind.i64.wrap ((j : Int) + 1) = ((j + 1 : Nat) : Int) := IntWalk.i64_in _ ⟨by omega, by omega⟩
        obtain ⟨X, hX⟩ := sword_at hbw hj
        have hmw := List.getElem_mem hj
        have hws := swordB_succ m s j
        rw [getD_at hj] at hws
        have htk : s.words.take j ++ [s.words[j]] = s.words.take (j + 1) := (List.take_succ_eq_append_getElem hj).symm
        (simp (disch := first | decide | omega | (simp only [nx]; first | done | omega)) only [go_sem, qj, q0, q1, q4, q5, q19, q29, b1]; (repeat with_reducible refine aI ?_))
        refine (wordU_r rj hpl hL hij hX (hf.names _ hmw) (by rw [List.length_take]; omega) (by rw [htk]; exact unlike_take (hf.k4 e4).2 _)).wf.mono ?_
        rintro _ T3 ⟨⟨rfl, r3⟩, hT3⟩
        rw [htk] at r3
        (simp (disch := first | decide | omega | (simp only [nx]; first | done | omega)) only [go_sem, qj, w1]; (repeat with_reducible refine aI ?_))
        refine ⟨by omega, _, fun _ _ h => h, by omega, by (first | (simp (disch := first | decide | omega | (simp only [nx]; first | done | omega)) only [go_sem]; first | done | rfl) | rfl), ?_⟩
        have hlw : (swordB m s (j + 1)).length = (swordB m s j).length + ((numB s.words[j].length).length + s.words[j].length) := by rw [hws, if_neg (by omega)]; simp
        rw [hlw, ← Nat.add_assoc]
        exact r3
      · have b1 : decide ((j : Int) < (s.words.length : Int)) = false := by simp; omega
        have hje : j = s.words.length := by omega
        subst hje
        (simp (disch := first | decide | omega | (simp only [nx]; first | done | omega)) only [go_sem, qj, q0, q1, q4, q5, q19, q29, b1]; (repeat with_reducible refine aI ?_))
        obtain ⟨o9, dP9, x1, hfin⟩ := fin_sch (s := s) rj hpl rfl (List.take_of_length_le (Nat.le_refl _)).symm (hf.noparts (by omega) (by omega))
        have zz := rj.zero
        refine (err_r rj.rd).mono ?_
        rintro _ _ ⟨rfl, he⟩
        rw [he]
        clear he
        (simp (disch := first | decide | omega | (simp only [nx]; first | done | omega)) only [go_sem, x1, zz, szero, q0, q1, q4, q5, q19, q29]; (repeat with_reducible refine aI ?_))
        obtain ⟨S9, d9, x2, x3, x4, x5⟩ := hfin _
        exact ⟨S9, d9, x2, x3, x4.obk rfl (by simp only [List.length_append]; omega), x5⟩
    by_cases e5 : s.kind = 5
    · have k1 : (s.kind == 1) = false := by simp; omega
      have k2 : (s.kind == 2) = false := by simp; omega
      have k3 : (s.kind == 3) = false := by simp; omega
      have k4 : (s.kind == 4) = false := by simp; omega
      have k5 : (s.kind == 5) = true := by simp; omega
      have k6 : (s.kind == 6) = false := by simp; omega
      have zk : (D.agg szero).okCell = true := by kernel_rfl
      have zl : szero.length = 3 := by kernel_rfl
      have za : ofV (.agg #[.int .i64 0, .slice none 0 0, .slice none 0 0]) = .agg szero := by kernel_rfl
      have heP : elT Tryd.prog 51 = some 53 := by kernel_rfl
      have hbP : bytesOf Tryd.prog 53 = 56 := by kernel_rfl
      have hzP : zeroT Tryd.prog 53 = true := by kernel_rfl
      have hzO : zeroOk Tryd.prog 53 = true := by kernel_rfl
      have wd : IntKind.i64.wrap (((m + 1 : Nat) : Int) - 1) = ((m : Nat) : Int) := by rw [IntWalk.i64_in _ ⟨by omega, by omega⟩]; omega
      have hhe : hb1 = numB s.words.length := by
        have := hvh
        unfold sheadB at this
        rw [if_pos (by omega)] at this
        injection this with _ this
        exact this.symm
      have hz3 : (stailB m s).length = 0 := by unfold stailB; rw [if_neg (by omega)]; rfl
      (simp (disch := first | decide | omega | (simp only [nx]; first | done | omega)) only [go_sem, u1, k1, k2, k3, k4, k5, k6]; (repeat with_reducible refine aI ?_))
      refine (scount_r (n := s.words.length) (least := 0) (rest := swordB m s s.words.length ++ (stailB m s ++ rest)) (by have := hpl.hk; have := r1.fr.next; omega) r1.rd hL hi1 (by rw [hdr1, hhe]; simp only [List.append_assoc]) hnw (Nat.zero_le _)).wf.mono ?_
      rintro _ T2 ⟨⟨rfl, h2, hF2⟩, hT2⟩
      have r2 := r1.call hpl h2 hF2 hT2
      have hn0' : (sheadB s).length = 1 + (numB s.words.length).length := by rw [hhl, hhe]
      (simp (disch := first | decide | omega | (simp only [nx]; first | done | omega)) only [go_sem]; (repeat with_reducible refine aI ?_))
      refine dloop_up (fun t => List.contains [39, 40, 41, 42, 43, 44, 45, 46, 47, 48, 49, 50, 51, 52, 53, 54] t) (by kernel_rfl) (by exact hT2) s.words.length (fun j g T => j ≤ s.words.length ∧ g 39 = .v (.int .i64 ((j : Nat) : Int)) ∧ SBx S k q (q + 1) L (i + (sheadB s).length + (swordB m s j).length) s.kind (s.words.take j) (s.parts.take j) T)
        ⟨by omega, by (first | (simp (disch := first | decide | omega | (simp only [nx]; first | done | omega)) only [go_sem]; first | done | rfl) | rfl), by rw [show i + (sheadB s).length + (swordB m s 0).length = i + 1 + (numB s.words.length).length by rw [hn0']; show i + _ + 0 = _; omega]; exact r2⟩ ?_
      rintro j g T hT hg ⟨le, qj, rj⟩
      (have q0 := hg 0 rfl; have q1 := hg 1 rfl; have q4 := hg 4 rfl; have q5 := hg 5 rfl; have q19 := hg 19 rfl; have q38 := hg 38 rfl; simp (disch := first | decide | omega | (simp only [nx]; first | done | omega)) only [go_sem] at q0 q1 q4 q5 q19 q38; clear hg)
      have hij : i + (sheadB s).length + (swordB m s j).length ≤ L.length := by
        obtain ⟨X, hX⟩ := sword_split m s j (s.words.length - j)
        rw [show j + (s.words.length - j) = s.words.length by omega] at hX
        rw [hX, List.length_append] at hlen
        omega
      by_cases hj : j < s.words.length
      · have b1 : decide ((j : Int) < (s.words.length : Int)) = true := by simp; omega
        have w1 : IntKind.i64.wrap ((j : Int) + 1) = ((j + 1 : Nat) : Int) := IntWalk.i64_in _ ⟨by omega, by omega⟩
        obtain ⟨X, hX⟩ := sword_at hbw hj
        have hmw := List.getElem_mem hj
        have hws := swordB_succ m s j
        rw [getD_at hj] at hws
        have htk : s.words.take j ++ [s.words[j]] = s.words.take (j + 1) := (List.take_succ_eq_append_getElem hj).symm
        (simp (disch := first | decide | omega | (simp only [nx]; first | done | omega)) only [go_sem, qj, q0, q1, q4, q5, q19, q38, b1]; (repeat with_reducible refine aI ?_))
        refine (wordR_r rj hpl hL hij hX (hf.names _ hmw) (by rw [List.length_take]; omega) (by rw [htk]; exact rising_take (hf.k5 e5).2 _)).wf.mono ?_
        rintro _ T3 ⟨⟨rfl, r3⟩, hT3⟩
        rw [htk] at r3
        have hlp : j < s.parts.length := by have := (hf.k5 e5).1; omega
        have hmp := List.getElem_mem hlp
        rw [if_pos e5, getD_at hlp] at hws hX
        have hij3 : i + (sheadB s).length + (swordB m s j).length + ((numB s.words[j].length).length + s.words[j].length) ≤ L.length := by
          have := congrArg List.length hX
          simp only [List.length_drop, List.length_append] at this
          omega
        have hd3 : L.drop (i + (sheadB s).length + (swordB m s j).length + ((numB s.words[j].length).length + s.words[j].length)) = bytesS m s.parts[j] ++ X := by
          rw [← List.drop_drop, hX, ← List.length_append, List.drop_left]
        have htp : s.parts.take j ++ [s.parts[j]] = s.parts.take (j + 1) := (List.take_succ_eq_append_getElem hlp).symm
        (simp (disch := first | decide | omega | (simp only [nx]; first | done | omega)) only [go_sem, qj, q0, q1, q4, q5, q19, q38]; (repeat with_reducible refine aI ?_))
        obtain ⟨o1, dP, b1, b2, b3⟩ := r3.box
        have p1 := hpl.hk
        have p2 := hpl.hq
        have p3 := hpl.hlo
        have p4 := r3.hlo
        have hwf := r3.wf
        have hq4 := hwf.lt b1
        rcases b3 with ⟨hps, rfl⟩ | ⟨a, c, zs, rfl, w2, w3, w4, w5, w6⟩
        · rw [hps] at r3
          refine ddraw_any (fun _ => True) 13 (by (first | (simp (disch := first | decide | omega | (simp only [nx]; first | done | omega)) only [go_sem]; first | done | rfl) | rfl)) (by kernel_rfl) ?_
          (refine s_take 0 rfl (by kernel_rfl) (by kernel_rfl) (v := ?v12) (fun S' hz => dquietR_of ?h12) <| s_take 2 rfl (by kernel_rfl) (by kernel_rfl) (v := ?v13) (fun S' hz => dquietR_of ?h13) <| s_take 3 rfl (by kernel_rfl) (by kernel_rfl) (v := ?v14) (fun S' hz => dquietR_of ?h14) <| s_take 4 rfl (by kernel_rfl) (by kernel_rfl) (v := ?v15) (fun S' hz => dquietR_of ?h15) <| s_take 7 rfl (by kernel_rfl) (by kernel_rfl) (v := ?v16) (fun S' hz => dquietR_of ?h16) <| ?k16; (case h12 | h13 | h14 | h15 | h16 => ((simp (disch := first | decide | omega | (simp only [nx]; first | done | omega)) only [go_sem, q0, q1, q4, q5, q19, q38, wd, za, zk, zl, hz]; (repeat with_reducible refine aI ?_)); first | done | exact rfl | omega)))
          refine s_split [1, 5] (by kernel_rfl) (by simp) ?_
          intro j_ hj_
          simp only [List.mem_cons, List.not_mem_nil, or_false] at hj_
          rcases hj_ with rfl | rfl
          · refine s_op rfl ?_
            (simp (disch := first | decide | omega | (simp only [nx]; first | done | omega)) only [go_sem, q0, q1, q4, q5, q19, q38, b1]; (repeat with_reducible refine aI ?_))
            (refine s_take 6 rfl (by kernel_rfl) (by kernel_rfl) (v := ?v17) (fun S' hz => dquietR_of ?h17) ?k17; (case h17 => ((simp (disch := first | decide | omega | (simp only [nx]; first | done | omega)) only [go_sem, q0, q1, q4, q5, q19, q38, hz]; (repeat with_reducible refine aI ?_)); first | done | exact rfl | omega)))
            (refine s_split [5] (by kernel_rfl) (by simp) ?_; intro j_ hj_; obtain rfl : j_ = 5 := (by simpa using hj_); clear hj_; refine s_op rfl ?_; (simp (disch := first | decide | omega | (simp only [nx]; first | done | omega)) only [go_sem, q0, q1, q4, q5, q19, q38, wd]; (repeat with_reducible refine aI ?_)))
            refine (ih s.parts[j] (hf.parts _ hmp) (hp.2.2.2.2 _ hmp) (by have := hpl.hk; have := r3.fr.next; omega) r3.rd hL hij3 (by omega) hd3).wf.mono ?_
            rintro _ T5 ⟨⟨rfl, h5, hF5⟩, hT5⟩
            have r5 := r3.call hpl h5 hF5 hT5
            have c1 := hF5.box q _ _ (by omega) b1
            have c2 := b2.rfr r3.rd.isbox hF5
            have c3 : PAt (q + 1) (([] : List DSch)) (.sl .full []) T5 := .inl ⟨rfl, rfl⟩
            have hq5 := hT5.lt c1
            (refine s_split [8] (by kernel_rfl) (by simp) ?_; intro j_ hj_; obtain rfl : j_ = 8 := (by simpa using hj_); clear hj_; refine s_op rfl ?_; (simp (disch := first | decide | omega | (simp only [nx]; first | done | omega)) only [go_sem, q0, q1, q4, q5, q19, q38]; (repeat with_reducible refine aI ?_)))
            refine dapp_ownD (es := (([] : List DSch)).map encS) heP (by kernel_rfl) hzP hzO (.inl ⟨rfl, rfl⟩) (by rw [szSc]; exact wSch _) (es2 := [.agg szero]) (by rw [szSc]; intro d hd; rw [List.mem_singleton] at hd; subst hd; rfl) (by simp <;> omega) (by rw [hbP]; simp <;> omega) fun c' zs' hl' => ?_
            rw [szSc] at hl'
            have hc' : 0 < c' := by
              rw [List.length_append, flat_append, List.length_append] at hl'
              have : (flat [D.agg szero]).length = 3 := rfl
              omega
            obtain ⟨T6, hT6⟩ : ∃ T6 : St, T6 = (T5.left (.sl .full [])).add (ownOb 53 ((([] : List DSch)).map encS ++ [.agg szero]) zs' c') := ⟨_, rfl⟩
            rw [← hT6]
            have y1 : T6.ob q = some (.box 53 [.v (.int .i64 s.kind), .sl o1 ((s.words.take (j + 1)).map strD), .sl .full []]) := by
              rw [hT6, add_ne (by show q < T5.next; omega)]
              exact c1
            have hob : T6.ob T5.next = some (.box 53 (flat ((([] : List DSch)).map encS ++ [.agg szero]) ++ zs')) := by
              rw [hT6, ownOb_box hc']; exact add_eq (S := T5.left (.sl .full []))
            have hfit : (([] : List DSch)).length * 3 + 3 ≤ (flat ((([] : List DSch)).map encS ++ [.agg szero]) ++ zs').length := last_fit
            simp only [List.map_nil, List.nil_append, List.length_nil, Nat.zero_mul, Nat.zero_add] at hfit
            have r7 := r5.part (p := s.parts[j]) hpl c1 c2 c3 hc' (last_len hl') (B := ownOb 53 ((([] : List DSch)).map encS ++ [.agg szero]) zs' c')
            rw [← hT6, ownOb_box hc', ← last_set] at r7
            (refine s_take 9 rfl (by kernel_rfl) (by kernel_rfl) (v := ?v18) (fun S' hz => dquietR_of ?h18) <| s_take 11 rfl (by kernel_rfl) (by kernel_rfl) (v := ?v19) (fun S' hz => dquietR_of ?h19) <| ?k19; (case h18 | h19 => ((simp (disch := first | decide | omega | (simp only [nx]; first | done | omega)) only [go_sem, q0, q1, q4, q5, q19, q38, hz]; (repeat with_reducible refine aI ?_)); first | done | exact rfl | omega)))
            refine s_split [10, 12] (by kernel_rfl) (by simp) ?_
            intro j_ hj_
            simp only [List.mem_cons, List.not_mem_nil, or_false] at hj_
            rcases hj_ with rfl | rfl
            · refine s_op rfl ?_
              (simp (disch := first | decide | omega | (simp only [nx]; first | done | omega)) only [go_sem, q0, q1, q4, q5, q19, q38, y1, hob, hfit]; (repeat with_reducible refine aI ?_))
              (refine s_split [12] (by kernel_rfl) (by simp) ?_; intro j_ hj_; obtain rfl : j_ = 12 := (by simpa using hj_); clear hj_; refine s_op rfl ?_; (simp (disch := first | decide | omega | (simp only [nx]; first | done | omega)) only [go_sem, q0, q1, q4, q5, q19, q38, y1, hob, hfit]; (repeat with_reducible refine aI ?_)))
              (refine s_done (by kernel_rfl) ?_; (simp (disch := first | decide | omega | (simp only [nx]; first | done | omega)) only [go_sem, q0, q1, q4, q5, q19, q38, y1, hob, hfit, w1, qj]; (repeat with_reducible refine aI ?_)))
              refine ⟨by omega, _, fun _ _ h => h, by omega, by (first | (simp (disch := first | decide | omega | (simp only [nx]; first | done | omega)) only [go_sem]; first | done | rfl) | rfl), ?_⟩
              have hlw : (swordB m s (j + 1)).length = (swordB m s j).length + ((numB s.words[j].length).length + s.words[j].length) + (bytesS m s.parts[j]).length := by rw [hws]; simp only [List.length_append]; omega
              rw [hlw, ← Nat.add_assoc, ← Nat.add_assoc, ← htp]
              first | exact r7 | (rw [hps]; exact r7)
            · refine s_op rfl ?_
              (simp (disch := first | decide | omega | (simp only [nx]; first | done | omega)) only [go_sem, q0, q1, q4, q5, q19, q38, y1, hob, hfit]; (repeat with_reducible refine aI ?_))
              (refine s_split [10] (by kernel_rfl) (by simp) ?_; intro j_ hj_; obtain rfl : j_ = 10 := (by simpa using hj_); clear hj_; refine s_op rfl ?_; (simp (disch := first | decide | omega | (simp only [nx]; first | done | omega)) only [go_sem, q0, q1, q4, q5, q19, q38, y1, hob, hfit]; (repeat with_reducible refine aI ?_)))
              (refine s_done (by kernel_rfl) ?_; (simp (disch := first | decide | omega | (simp only [nx]; first | done | omega)) only [go_sem, q0, q1, q4, q5, q19, q38, y1, hob, hfit, w1, qj]; (repeat with_reducible refine aI ?_)))
              rw [set_swap (by omega)] at r7
              refine ⟨by omega, _, fun _ _ h => h, by omega, by (first | (simp (disch := first | decide | omega | (simp only [nx]; first | done | omega)) only [go_sem]; first | done | rfl) | rfl), ?_⟩
              have hlw : (swordB m s (j + 1)).length = (swordB m s j).length + ((numB s.words[j].length).length + s.words[j].length) + (bytesS m s.parts[j]).length := by rw [hws]; simp only [List.length_append]; omega
              rw [hlw, ← Nat.add_assoc, ← Nat.add_assoc, ← htp]
              first | exact r7 | (rw [hps]; exact r7)
          · refine s_op rfl ?_
            (simp (disch := first | decide | omega | (simp only [nx]; first | done | omega)) only [go_sem, q0, q1, q4, q5, q19, q38, wd]; (repeat with_reducible refine aI ?_))
            refine (ih s.parts[j] (hf.parts _ hmp) (hp.2.2.2.2 _ hmp) (by have := hpl.hk; have := r3.fr.next; omega) r3.rd hL hij3 (by omega) hd3).wf.mono ?_
            rintro _ T5 ⟨⟨rfl, h5, hF5⟩, hT5⟩
            have r5 := r3.call hpl h5 hF5 hT5
            have c1 := hF5.box q _ _ (by omega) b1
            have c2 := b2.rfr r3.rd.isbox hF5
            have c3 : PAt (q + 1) (([] : List DSch)) (.sl .full []) T5 := .inl ⟨rfl, rfl⟩
            have hq5 := hT5.lt c1
            (refine s_split [1] (by kernel_rfl) (by simp) ?_; intro j_ hj_; obtain rfl : j_ = 1 := (by simpa using hj_); clear hj_; refine s_op rfl ?_; (simp (disch := first | decide | omega | (simp only [nx]; first | done | omega)) only [go_sem, q0, q1, q4, q5, q19, q38, c1]; (repeat with_reducible refine aI ?_)))
            (refine s_take 6 rfl (by kernel_rfl) (by kernel_rfl) (v := ?v20) (fun S' hz => dquietR_of ?h20) ?k20; (case h20 => ((simp (disch := first | decide | omega | (simp only [nx]; first | done | omega)) only [go_sem, q0, q1, q4, q5, q19, q38, hz]; (repeat with_reducible refine aI ?_)); first | done | exact rfl | omega)))
            (refine s_split [8] (by kernel_rfl) (by simp) ?_; intro j_ hj_; obtain rfl : j_ = 8 := (by simpa using hj_); clear hj_; refine s_op rfl ?_; (simp (disch := first | decide | omega | (simp only [nx]; first | done | omega)) only [go_sem, q0, q1, q4, q5, q19, q38]; (repeat with_reducible refine aI ?_)))
            refine dapp_ownD (es := (([] : List DSch)).map encS) heP (by kernel_rfl) hzP hzO (.inl ⟨rfl, rfl⟩) (by rw [szSc]; exact wSch _) (es2 := [.agg szero]) (by rw [szSc]; intro d hd; rw [List.mem_singleton] at hd; subst hd; rfl) (by simp <;> omega) (by rw [hbP]; simp <;> omega) fun c' zs' hl' => ?_
            rw [szSc] at hl'
            have hc' : 0 < c' := by
              rw [List.length_append, flat_append, List.length_append] at hl'
              have : (flat [D.agg szero]).length = 3 := rfl
              omega
            obtain ⟨T6, hT6⟩ : ∃ T6 : St, T6 = (T5.left (.sl .full [])).add (ownOb 53 ((([] : List DSch)).map encS ++ [.agg szero]) zs' c') := ⟨_, rfl⟩
            rw [← hT6]
            have y1 : T6.ob q = some (.box 53 [.v (.int .i64 s.kind), .sl o1 ((s.words.take (j + 1)).map strD), .sl .full []]) := by
              rw [hT6, add_ne (by show q < T5.next; omega)]
              exact c1
            have hob : T6.ob T5.next = some (.box 53 (flat ((([] : List DSch)).map encS ++ [.agg szero]) ++ zs')) := by
              rw [hT6, ownOb_box hc']; exact add_eq (S := T5.left (.sl .full []))
            have hfit : (([] : List DSch)).length * 3 + 3 ≤ (flat ((([] : List DSch)).map encS ++ [.agg szero]) ++ zs').length := last_fit
            simp only [List.map_nil, List.nil_append, List.length_nil, Nat.zero_mul, Nat.zero_add] at hfit
            have r7 := r5.part (p := s.parts[j]) hpl c1 c2 c3 hc' (last_len hl') (B := ownOb 53 ((([] : List DSch)).map encS ++ [.agg szero]) zs' c')
            rw [← hT6, ownOb_box hc', ← last_set] at r7
            (refine s_take 9 rfl (by kernel_rfl) (by kernel_rfl) (v := ?v21) (fun S' hz => dquietR_of ?h21) <| s_take 11 rfl (by kernel_rfl) (by kernel_rfl) (v := ?v22) (fun S' hz => dquietR_of ?h22) <| ?k22; (case h21 | h22 => ((simp (disch := first | decide | omega | (simp only [nx]; first | done | omega)) only [go_sem, q0, q1, q4, q5, q19, q38, hz]; (repeat with_reducible refine aI ?_)); first | done | exact rfl | omega)))
            refine s_split [10, 12] (by kernel_rfl) (by simp) ?_
            intro j_ hj_
            simp only [List.mem_cons, List.not_mem_nil, or_false] at hj_
            rcases hj_ with rfl | rfl
            · refine s_op rfl ?_
              (simp (disch := first | decide | omega | (simp only [nx]; first | done | omega)) only [go_sem, q0, q1, q4, q5, q19, q38, y1, hob, hfit]; (repeat with_reducible refine aI ?_))
              (refine s_split [12] (by kernel_rfl) (by simp) ?_; intro j_ hj_; obtain rfl : j_ = 12 := (by simpa using hj_); clear hj_; refine s_op rfl ?_; (simp (disch := first | decide | omega | (simp only [nx]; first | done | omega)) only [go_sem, q0, q1, q4, q5, q19, q38, y1, hob, hfit]; (repeat with_reducible refine aI ?_)))
              (refine s_done (by kernel_rfl) ?_; (simp (disch := first | decide | omega | (simp only [nx]; first | done | omega)) only [go_sem, q0, q1, q4, q5, q19, q38, y1, hob, hfit, w1, qj]; (repeat with_reducible refine aI ?_)))
              refine ⟨by omega, _, fun _ _ h => h, by omega, by (first | (simp (disch := first | decide | omega | (simp only [nx]; first | done | omega)) only [go_sem]; first | done | rfl) | rfl), ?_⟩
              have hlw : (swordB m s (j + 1)).length = (swordB m s j).length + ((numB s.words[j].length).length + s.words[j].length) + (bytesS m s.parts[j]).length := by rw [hws]; simp only [List.length_append]; omega
              rw [hlw, ← Nat.add_assoc, ← Nat.add_assoc, ← htp]
              first | exact r7 | (rw [hps]; exact r7)
            · refine s_op rfl ?_
              (simp (disch := first | decide | omega | (simp only [nx]; first | done | omega)) only [go_sem, q0, q1, q4, q5, q19, q38, y1, hob, hfit]; (repeat with_reducible refine aI ?_))
              (refine s_split [10] (by kernel_rfl) (by simp) ?_; intro j_ hj_; obtain rfl : j_ = 10 := (by simpa using hj_); clear hj_; refine s_op rfl ?_; (simp (disch := first | decide | omega | (simp only [nx]; first | done | omega)) only [go_sem, q0, q1, q4, q5, q19, q38, y1, hob, hfit]; (repeat with_reducible refine aI ?_)))
              (refine s_done (by kernel_rfl) ?_; (simp (disch := first | decide | omega | (simp only [nx]; first | done | omega)) only [go_sem, q0, q1, q4, q5, q19, q38, y1, hob, hfit, w1, qj]; (repeat with_reducible refine aI ?_)))
              rw [set_swap (by omega)] at r7
              refine ⟨by omega, _, fun _ _ h => h, by omega, by (first | (simp (disch := first | decide | omega | (simp only [nx]; first | done | omega)) only [go_sem]; first | done | rfl) | rfl), ?_⟩
              have hlw : (swordB m s (j + 1)).length = (swordB m s j).length + ((numB s.words[j].length).length + s.words[j].length) + (bytesS m s.parts[j]).length := by rw [hws]; simp only [List.length_append]; omega
              rw [hlw, ← Nat.add_assoc, ← Nat.add_assoc, ← htp]
              first | exact r7 | (rw [hps]; exact r7)
        · refine ddraw_any (fun _ => True) 13 (by (first | (simp (disch := first | decide | omega | (simp only [nx]; first | done | omega)) only [go_sem]; first | done | rfl) | rfl)) (by kernel_rfl) ?_
          (refine s_take 0 rfl (by kernel_rfl) (by kernel_rfl) (v := ?v23) (fun S' hz => dquietR_of ?h23) <| s_take 2 rfl (by kernel_rfl) (by kernel_rfl) (v := ?v24) (fun S' hz => dquietR_of ?h24) <| s_take 3 rfl (by kernel_rfl) (by kernel_rfl) (v := ?v25) (fun S' hz => dquietR_of ?h25) <| s_take 4 rfl (by kernel_rfl) (by kernel_rfl) (v := ?v26) (fun S' hz => dquietR_of ?h26) <| s_take 7 rfl (by kernel_rfl) (by kernel_rfl) (v := ?v27) (fun S' hz => dquietR_of ?h27) <| ?k27; (case h23 | h24 | h25 | h26 | h27 => ((simp (disch := first | decide | omega | (simp only [nx]; first | done | omega)) only [go_sem, q0, q1, q4, q5, q19, q38, wd, za, zk, zl, hz]; (repeat with_reducible refine aI ?_)); first | done | exact rfl | omega)))
          refine s_split [1, 5] (by kernel_rfl) (by simp) ?_
          intro j_ hj_
          simp only [List.mem_cons, List.not_mem_nil, or_false] at hj_
          rcases hj_ with rfl | rfl
          · refine s_op rfl ?_
            (simp (disch := first | decide | omega | (simp only [nx]; first | done | omega)) only [go_sem, q0, q1, q4, q5, q19, q38, b1]; (repeat with_reducible refine aI ?_))
            (refine s_take 6 rfl (by kernel_rfl) (by kernel_rfl) (v := ?v28) (fun S' hz => dquietR_of ?h28) ?k28; (case h28 => ((simp (disch := first | decide | omega | (simp only [nx]; first | done | omega)) only [go_sem, q0, q1, q4, q5, q19, q38, hz]; (repeat with_reducible refine aI ?_)); first | done | exact rfl | omega)))
            (refine s_split [5] (by kernel_rfl) (by simp) ?_; intro j_ hj_; obtain rfl : j_ = 5 := (by simpa using hj_); clear hj_; refine s_op rfl ?_; (simp (disch := first | decide | omega | (simp only [nx]; first | done | omega)) only [go_sem, q0, q1, q4, q5, q19, q38, wd]; (repeat with_reducible refine aI ?_)))
            refine (ih s.parts[j] (hf.parts _ hmp) (hp.2.2.2.2 _ hmp) (by have := hpl.hk; have := r3.fr.next; omega) r3.rd hL hij3 (by omega) hd3).wf.mono ?_
            rintro _ T5 ⟨⟨rfl, h5, hF5⟩, hT5⟩
            have r5 := r3.call hpl h5 hF5 hT5
            have c1 := hF5.box q _ _ (by omega) b1
            have c2 := b2.rfr r3.rd.isbox hF5
            have c3 : PAt (q + 1) (s.parts.take j) (.win a 0 (s.parts.take j).length c) T5 := PAt.rfr (.inr ⟨a, c, zs, rfl, w2, w3, w4, w5, w6⟩) (by omega) hF5
            have hq5 := hT5.lt c1
            (refine s_split [8] (by kernel_rfl) (by simp) ?_; intro j_ hj_; obtain rfl : j_ = 8 := (by simpa using hj_); clear hj_; refine s_op rfl ?_; (simp (disch := first | decide | omega | (simp only [nx]; first | done | omega)) only [go_sem, q0, q1, q4, q5, q19, q38]; (repeat with_reducible refine aI ?_)))
            refine dapp_ownD (es := (s.parts.take j).map encS) heP (by kernel_rfl) hzP hzO (.inr ⟨a, c, zs, by rw [List.length_map], hF5.ob a _ (by omega) w2, by rw [szSc]; exact w3, Nat.lt_of_lt_of_le w5 hF5.next⟩) (by rw [szSc]; exact wSch _) (es2 := [.agg szero]) (by rw [szSc]; intro d hd; rw [List.mem_singleton] at hd; subst hd; rfl) (by simp <;> omega) (by rw [hbP]; simp <;> omega) fun c' zs' hl' => ?_
            rw [szSc] at hl'
            have hc' : 0 < c' := by
              rw [List.length_append, flat_append, List.length_append] at hl'
              have : (flat [D.agg szero]).length = 3 := rfl
              omega
            obtain ⟨T6, hT6⟩ : ∃ T6 : St, T6 = (T5.left (.win a 0 (s.parts.take j).length c)).add (ownOb 53 ((s.parts.take j).map encS ++ [.agg szero]) zs' c') := ⟨_, rfl⟩
            rw [← hT6]
            have y1 : T6.ob q = some (.box 53 [.v (.int .i64 s.kind), .sl o1 ((s.words.take (j + 1)).map strD), .win a 0 (s.parts.take j).length c]) := by
              rw [hT6, add_ne (by show q < T5.next; omega)]
              show (if q = a then none else _) = _
              rw [if_neg (by omega)]; exact c1
            have hob : T6.ob T5.next = some (.box 53 (flat ((s.parts.take j).map encS ++ [.agg szero]) ++ zs')) := by
              rw [hT6, ownOb_box hc']; exact add_eq (S := T5.left (.win a 0 (s.parts.take j).length c))
            have hfit : (s.parts.take j).length * 3 + 3 ≤ (flat ((s.parts.take j).map encS ++ [.agg szero]) ++ zs').length := last_fit

            have r7 := r5.part (p := s.parts[j]) hpl c1 c2 c3 hc' (last_len hl') (B := ownOb 53 ((s.parts.take j).map encS ++ [.agg szero]) zs' c')
            rw [← hT6, ownOb_box hc', ← last_set] at r7
            (refine s_take 9 rfl (by kernel_rfl) (by kernel_rfl) (v := ?v29) (fun S' hz => dquietR_of ?h29) <| s_take 11 rfl (by kernel_rfl) (by kernel_rfl) (v := ?v30) (fun S' hz => dquietR_of ?h30) <| ?k30; (case h29 | h30 => ((simp (disch := first | decide | omega | (simp only [nx]; first | done | omega)) only [go_sem, q0, q1, q4, q5, q19, q38, hz]; (repeat with_reducible refine aI ?_)); first | done | exact rfl | omega)))
            refine s_split [10, 12] (by kernel_rfl) (by simp) ?_
            intro j_ hj_
            simp only [List.mem_cons, List.not_mem_nil, or_false] at hj_
            rcases hj_ with rfl | rfl
            · refine s_op rfl ?_
              (simp (disch := first | decide | omega | (simp only [nx]; first | done | omega)) only [go_sem, q0, q1, q4, q5, q19, q38, y1, hob, hfit]; (repeat with_reducible refine aI ?_))
              (refine s_split [12] (by kernel_rfl) (by simp) ?_; intro j_ hj_; obtain rfl : j_ = 12 := (by simpa using hj_); clear hj_; refine s_op rfl ?_; (simp (disch := first | decide | omega | (simp only [nx]; first | done | omega)) only [go_sem, q0, q1, q4, q5, q19, q38, y1, hob, hfit]; (repeat with_reducible refine aI ?_)))
              (refine s_done (by kernel_rfl) ?_; (simp (disch := first | decide | omega | (simp only [nx]; first | done | omega)) only [go_sem, q0, q1, q4, q5, q19, q38, y1, hob, hfit, w1, qj]; (repeat with_reducible refine aI ?_)))
              refine ⟨by omega, _, fun _ _ h => h, by omega, by (first | (simp (disch := first | decide | omega | (simp only [nx]; first | done | omega)) only [go_sem]; first | done | rfl) | rfl), ?_⟩
              have hlw : (swordB m s (j + 1)).length = (swordB m s j).length + ((numB s.words[j].length).length + s.words[j].length) + (bytesS m s.parts[j]).length := by rw [hws]; simp only [List.length_append]; omega
              rw [hlw, ← Nat.add_assoc, ← Nat.add_assoc, ← htp]
              first | exact r7 | (rw [hps]; exact r7)
            · refine s_op rfl ?_
              (simp (disch := first | decide | omega | (simp only [nx]; first | done | omega)) only [go_sem, q0, q1, q4, q5, q19, q38, y1, hob, hfit]; (repeat with_reducible refine aI ?_))
              (refine s_split [10] (by kernel_rfl) (by simp) ?_; intro j_ hj_; obtain rfl : j_ = 10 := (by simpa using hj_); clear hj_; refine s_op rfl ?_; (simp (disch := first | decide | omega | (simp only [nx]; first | done | omega)) only [go_sem, q0, q1, q4, q5, q19, q38, y1, hob, hfit]; (repeat with_reducible refine aI ?_)))
              (refine s_done (by kernel_rfl) ?_; (simp (disch := first | decide | omega | (simp only [nx]; first | done | omega)) only [go_sem, q0, q1, q4, q5, q19, q38, y1, hob, hfit, w1, qj]; (repeat with_reducible refine aI ?_)))
              rw [set_swap (by omega)] at r7
              refine ⟨by omega, _, fun _ _ h => h, by omega, by (first | (simp (disch := first | decide | omega | (simp only [nx]; first | done | omega)) only [go_sem]; first | done | rfl) | rfl), ?_⟩
              have hlw : (swordB m s (j + 1)).length = (swordB m s j).length + ((numB s.words[j].length).length + s.words[j].length) + (bytesS m s.parts[j]).length := by rw [hws]; simp only [List.length_append]; omega
              rw [hlw, ← Nat.add_assoc, ← Nat.add_assoc, ← htp]
              first | exact r7 | (rw [hps]; exact r7)
          · refine s_op rfl ?_
            (simp (disch := first | decide | omega | (simp only [nx]; first | done | omega)) only [go_sem, q0, q1, q4, q5, q19, q38, wd]; (repeat with_reducible refine aI ?_))
            refine (ih s.parts[j] (hf.parts _ hmp) (hp.2.2.2.2 _ hmp) (by have := hpl.hk; have := r3.fr.next; omega) r3.rd hL hij3 (by omega) hd3).wf.mono ?_
            rintro _ T5 ⟨⟨rfl, h5, hF5⟩, hT5⟩
            have r5 := r3.call hpl h5 hF5 hT5
            have c1 := hF5.box q _ _ (by omega) b1
            have c2 := b2.rfr r3.rd.isbox hF5
            have c3 : PAt (q + 1) (s.parts.take j) (.win a 0 (s.parts.take j).length c) T5 := PAt.rfr (.inr ⟨a, c, zs, rfl, w2, w3, w4, w5, w6⟩) (by omega) hF5
            have hq5 := hT5.lt c1
            (refine s_split [1] (by kernel_rfl) (by simp) ?_; intro j_ hj_; obtain rfl : j_ = 1 := (by simpa using hj_); clear hj_; refine s_op rfl ?_; (simp (disch := first | decide | omega | (simp only [nx]; first | done | omega)) only [go_sem, q0, q1, q4, q5, q19, q38, c1]; (repeat with_reducible refine aI ?_)))
            (refine s_take 6 rfl (by kernel_rfl) (by kernel_rfl) (v := ?v31) (fun S' hz => dquietR_of ?h31) ?k31; (case h31 => ((simp (disch := first | decide | omega | (simp only [nx]; first | done | omega)) only [go_sem, q0, q1, q4, q5, q19, q38, hz]; (repeat with_reducible refine aI ?_)); first | done | exact rfl | omega)))
            (refine s_split [8] (by kernel_rfl) (by simp) ?_; intro j_ hj_; obtain rfl : j_ = 8 := (by simpa using hj_); clear hj_; refine s_op rfl ?_; (simp (disch := first | decide | omega | (simp only [nx]; first | done | omega)) only [go_sem, q0, q1, q4, q5, q19, q38]; (repeat with_reducible refine aI ?_)))
            refine dapp_ownD (es := (s.parts.take j).map encS) heP (by kernel_rfl) hzP hzO (.inr ⟨a, c, zs, by rw [List.length_map], hF5.ob a _ (by omega) w2, by rw [szSc]; exact w3, Nat.lt_of_lt_of_le w5 hF5.next⟩) (by rw [szSc]; exact wSch _) (es2 := [.agg szero]) (by rw [szSc]; intro d hd; rw [List.mem_singleton] at hd; subst hd; rfl) (by simp <;> omega) (by rw [hbP]; simp <;> omega) fun c' zs' hl' => ?_
            rw [szSc] at hl'
            have hc' : 0 < c' := by
              rw [List.length_append, flat_append, List.length_append] at hl'
              have : (flat [D.agg szero]).length = 3 := rfl
              omega
            obtain ⟨T6, hT6⟩ : ∃ T6 : St, T6 = (T5.left (.win a 0 (s.parts.take j).length c)).add (ownOb 53 ((s.parts.take j).map encS ++ [.agg szero]) zs' c') := ⟨_, rfl⟩
            rw [← hT6]
            have y1 : T6.ob q = some (.box 53 [.v (.int .i64 s.kind), .sl o1 ((s.words.take (j + 1)).map strD), .win a 0 (s.parts.take j).length c]) := by
              rw [hT6, add_ne (by show q < T5.next; omega)]
              show (if q = a then none else _) = _
              rw [if_neg (by omega)]; exact c1
            have hob : T6.ob T5.next = some (.box 53 (flat ((s.parts.take j).map encS ++ [.agg szero]) ++ zs')) := by
              rw [hT6, ownOb_box hc']; exact add_eq (S := T5.left (.win a 0 (s.parts.take j).length c))
            have hfit : (s.parts.take j).length * 3 + 3 ≤ (flat ((s.parts.take j).map encS ++ [.agg szero]) ++ zs').length := last_fit

            have r7 := r5.part (p := s.parts[j]) hpl c1 c2 c3 hc' (last_len hl') (B := ownOb 53 ((s.parts.take j).map encS ++ [.agg szero]) zs' c')
            rw [← hT6, ownOb_box hc', ← last_set] at r7
            (refine s_take 9 rfl (by kernel_rfl) (by kernel_rfl) (v := ?v32) (fun S' hz => dquietR_of ?h32) <| s_take 11 rfl (by kernel_rfl) (by kernel_rfl) (v := ?v33) (fun S' hz => dquietR_of ?h33) <| ?k33; (case h32 | h33 => ((simp (disch := first | decide | omega | (simp only [nx]; first | done | omega)) only [go_sem, q0, q1, q4, q5, q19, q38, hz]; (repeat with_reducible refine aI ?_)); first | done | exact rfl | omega)))
            refine s_split [10, 12] (by kernel_rfl) (by simp) ?_
            intro j_ hj_
            simp only [List.mem_cons, List.not_mem_nil, or_false] at hj_
            rcases hj_ with rfl | rfl
            · refine s_op rfl ?_
              (simp (disch := first | decide | omega | (simp only [nx]; first | done | omega)) only [go_sem, q0, q1, q4, q5, q19, q38, y1, hob, hfit]; (repeat with_reducible refine aI ?_))
              (refine s_split [12] (by kernel_rfl) (by simp) ?_; intro j_ hj_; obtain rfl : j_ = 12 := (by simpa using hj_); clear hj_; refine s_op rfl ?_; (simp (disch := first | decide | omega | (simp only [nx]; first | done | omega)) only [go_sem, q0, q1, q4, q5, q19, q38, y1, hob, hfit]; (repeat with_reducible refine aI ?_)))
              (refine s_done (by kernel_rfl) ?_; (simp (disch := first | decide | omega | (simp only [nx]; first | done | omega)) only [go_sem, q0, q1, q4, q5, q19, q38, y1, hob, hfit, w1, qj]; (repeat with_reducible refine aI ?_)))
              refine ⟨by omega, _, fun _ _ h => h, by omega, by (first | (simp (disch := first | decide | omega | (simp only [nx]; first | done | omega)) only [go_sem]; first | done | rfl) | rfl), ?_⟩
              have hlw : (swordB m s (j + 1)).length = (swordB m s j).length + ((numB s.words[j].length).length + s.words[j].length) + (bytesS m s.parts[j]).length := by rw [hws]; simp only [List.length_append]; omega
              rw [hlw, ← Nat.add_assoc, ← Nat.add_assoc, ← htp]
              first | exact r7 | (rw [hps]; exact r7)
            · refine s_op rfl ?_
              (simp (disch := first | decide | omega | (simp only [nx]; first | done | omega)) only [go_sem, q0, q1, q4, q5, q19, q38, y1, hob, hfit]; (repeat with_reducible refine aI ?_))
              (refine s_split [10] (by kernel_rfl) (by simp) ?_; intro j_ hj_; obtain rfl : j_ = 10 := (by simpa using hj_); clear hj_; refine s_op rfl ?_; (simp (disch := first | decide | omega | (simp only [nx]; first | done | omega)) only [go_sem, q0, q1, q4, q5, q19, q38, y1, hob, hfit]; (repeat with_reducible refine aI ?_)))
              (refine s_done (by kernel_rfl) ?_; (simp (disch := first | decide | omega | (simp only [nx]; first | done | omega)) only [go_sem, q0, q1, q4, q5, q19, q38, y1, hob, hfit, w1, qj]; (repeat with_reducible refine aI ?_)))
              rw [set_swap (by omega)] at r7
              refine ⟨by omega, _, fun _ _ h => h, by omega, by (first | (simp (disch := first | decide | omega | (simp only [nx]; first | done | omega)) only [go_sem]; first | done | rfl) | rfl), ?_⟩
              have hlw : (swordB m s (j + 1)).length = (swordB m s j).length + ((numB s.words[j].length).length + s.words[j].length) + (bytesS m s.parts[j]).length := by rw [hws]; simp only [List.length_append]; omega
              rw [hlw, ← Nat.add_assoc, ← Nat.add_assoc, ← htp]
              first | exact r7 | (rw [hps]; exact r7)
      · have b1 : decide ((j : Int) < (s.words.length : Int)) = false := by simp; omega
        have hje : j = s.words.length := by omega
        subst hje
        (simp (disch := first | decide | omega | (simp only [nx]; first | done | omega)) only [go_sem, qj, q0, q1, q4, q5, q19, q38, b1]; (repeat with_reducible refine aI ?_))
        obtain ⟨o9, dP9, x1, hfin⟩ := fin_sch (s := s) rj hpl rfl (List.take_of_length_le (Nat.le_refl _)).symm (List.take_of_length_le (by have := (hf.k5 e5).1; omega)).symm
        have zz := rj.zero
        refine (err_r rj.rd).mono ?_
        rintro _ _ ⟨rfl, he⟩
        rw [he]
        clear he
        (simp (disch := first | decide | omega | (simp only [nx]; first | done | omega)) only [go_sem, x1, zz, szero, q0, q1, q4, q5, q19, q38]; (repeat with_reducible refine aI ?_))
        obtain ⟨S9, d9, x2, x3, x4, x5⟩ := hfin _
        exact ⟨S9, d9, x2, x3, x4.obk rfl (by simp only [List.length_append]; omega), x5⟩
    have e6 : s.kind = 6 := by omega
    have k1 : (s.kind == 1) = false := by simp; omega
    have k2 : (s.kind == 2) = false := by simp; omega
    have k3 : (s.kind == 3) = false := by simp; omega
    have k4 : (s.kind == 4) = false := by simp; omega
    have k5 : (s.kind == 5) = false := by simp; omega
    have k6 : (s.kind == 6) = true := by simp; omega
    have zk : (D.agg szero).okCell = true := by kernel_rfl
    have zl : szero.length = 3 := by kernel_rfl
    have za : ofV (.agg #[.int .i64 0, .slice none 0 0, .slice none 0 0]) = .agg szero := by kernel_rfl
    have heP : elT Tryd.prog 51 = some 53 := by kernel_rfl
    have hbP : bytesOf Tryd.prog 53 = 56 := by kernel_rfl
    have hzP : zeroT Tryd.prog 53 = true := by kernel_rfl
    have hzO : zeroOk Tryd.prog 53 = true := by kernel_rfl
    have wd : IntKind.i64.wrap (((m + 1 : Nat) : Int) - 1) = ((m : Nat) : Int) := by rw [IntWalk.i64_in _ ⟨by omega, by omega⟩]; omega
    have hw0 : s.words = [] := hf.nowords (by omega) (by omega)
    obtain ⟨p0, hp0⟩ := List.length_eq_one_iff.1 (hf.k6 e6)
    have hmp : p0 ∈ s.parts := by rw [hp0]; exact List.mem_singleton.2 rfl
    have hz1 : (sheadB s).length = 1 := by unfold sheadB; rw [if_neg (by omega)]; rfl
    have hz2 : swordB m s s.words.length = [] := by rw [hw0]; rfl
    have hb10 : hb1 = [] := List.eq_nil_of_length_eq_zero (by omega)
    have hz3 : stailB m s = bytesS m p0 := by unfold stailB; rw [if_pos e6, hp0]; rfl
    have hd3 : L.drop (i + 1) = bytesS m p0 ++ rest := by rw [hdr1, hb10, hz2, hz3]; simp
    (simp (disch := first | decide | omega | (simp only [nx]; first | done | omega)) only [go_sem, u1, k1, k2, k3, k4, k5, k6]; (repeat with_reducible refine aI ?_))
    have p1 := hpl.hk
    have p2 := hpl.hq
    have p3 := hpl.hlo
    have p4 := r1.hlo
    have hwf := r1.wf
    have b1 : T1.ob q = some (.box 53 [.v (.int .i64 s.kind), .sl .full (([] : List Str).map strD), .sl .full []]) := u1
    have b2 : RowAt (q + 1) .full ([] : List Str).length 9 T1 := .inl ⟨rfl, rfl⟩
    have hq4 := hwf.lt b1
    refine ddraw_any (fun _ => True) 13 (by (first | (simp (disch := first | decide | omega | (simp only [nx]; first | done | omega)) only [go_sem]; first | done | rfl) | rfl)) (by kernel_rfl) ?_
    (refine s_take 0 rfl (by kernel_rfl) (by kernel_rfl) (v := ?v1) (fun S' hz => dquietR_of ?h1) <| s_take 2 rfl (by kernel_rfl) (by kernel_rfl) (v := ?v2) (fun S' hz => dquietR_of ?h2) <| s_take 3 rfl (by kernel_rfl) (by kernel_rfl) (v := ?v3) (fun S' hz => dquietR_of ?h3) <| s_take 4 rfl (by kernel_rfl) (by kernel_rfl) (v := ?v4) (fun S' hz => dquietR_of ?h4) <| s_take 7 rfl (by kernel_rfl) (by kernel_rfl) (v := ?v5) (fun S' hz => dquietR_of ?h5) <| ?k5; (case h1 | h2 | h3 | h4 | h5 => ((simp (disch := first | decide | omega | (simp only [nx]; first | done | omega)) only [go_sem, u1, wd, za, zk, zl, hz]; (repeat with_reducible refine aI ?_)); first | done | exact rfl | omega)))
    refine s_split [1, 5] (by kernel_rfl) (by simp) ?_
    intro j_ hj_
    simp only [List.mem_cons, List.not_mem_nil, or_false] at hj_
    rcases hj_ with rfl | rfl
    · refine s_op rfl ?_
      (simp (disch := first | decide | omega | (simp only [nx]; first | done | omega)) only [go_sem, u1, b1]; (repeat with_reducible refine aI ?_))
      (refine s_take 6 rfl (by kernel_rfl) (by kernel_rfl) (v := ?v6) (fun S' hz => dquietR_of ?h6) ?k6; (case h6 => ((simp (disch := first | decide | omega | (simp only [nx]; first | done | omega)) only [go_sem, u1, hz]; (repeat with_reducible refine aI ?_)); first | done | exact rfl | omega)))
      (refine s_split [5] (by kernel_rfl) (by simp) ?_; intro j_ hj_; obtain rfl : j_ = 5 := (by simpa using hj_); clear hj_; refine s_op rfl ?_; (simp (disch := first | decide | omega | (simp only [nx]; first | done | omega)) only [go_sem, u1, wd]; (repeat with_reducible refine aI ?_)))
      refine (ih p0 (hf.parts _ hmp) (hp.2.2.2.2 _ hmp) (by omega) r1.rd hL hi1 (by omega) hd3).wf.mono ?_
      rintro _ T5 ⟨⟨rfl, h5, hF5⟩, hT5⟩
      have r5 := r1.call hpl h5 hF5 hT5
      have c1 := hF5.box q _ _ (by omega) b1
      have c2 := b2.rfr r1.rd.isbox hF5
      have c3 : PAt (q + 1) (([] : List DSch)) (.sl .full []) T5 := .inl ⟨rfl, rfl⟩
      have hq5 := hT5.lt c1
      (refine s_split [8] (by kernel_rfl) (by simp) ?_; intro j_ hj_; obtain rfl : j_ = 8 := (by simpa using hj_); clear hj_; refine s_op rfl ?_; (simp (disch := first | decide | omega | (simp only [nx]; first | done | omega)) only [go_sem, u1]; (repeat with_reducible refine aI ?_)))
      refine dapp_ownD (es := (([] : List DSch)).map encS) heP (by kernel_rfl) hzP hzO (.inl ⟨rfl, rfl⟩) (by rw [szSc]; exact wSch _) (es2 := [.agg szero]) (by rw [szSc]; intro d hd; rw [List.mem_singleton] at hd; subst hd; rfl) (by simp <;> omega) (by rw [hbP]; simp <;> omega) fun c' zs' hl' => ?_
      rw [szSc] at hl'
      have hc' : 0 < c' := by
        rw [List.length_append, flat_append, List.length_append] at hl'
        have : (flat [D.agg szero]).length = 3 := rfl
        omega
      obtain ⟨T6, hT6⟩ : ∃ T6 : St, T6 = (T5.left (.sl .full [])).add (ownOb 53 ((([] : List DSch)).map encS ++ [.agg szero]) zs' c') := ⟨_, rfl⟩
      rw [← hT6]
      have y1 : T6.ob q = some (.box 53 [.v (.int .i64 s.kind), .sl .full ((([] : List Str)).map strD), .sl .full []]) := by
        rw [hT6, add_ne (by show q < T5.next; omega)]
        exact c1
      have hob : T6.ob T5.next = some (.box 53 (flat ((([] : List DSch)).map encS ++ [.agg szero]) ++ zs')) := by
        rw [hT6, ownOb_box hc']; exact add_eq (S := T5.left (.sl .full []))
      have hfit : (([] : List DSch)).length * 3 + 3 ≤ (flat ((([] : List DSch)).map encS ++ [.agg szero]) ++ zs').length := last_fit
      simp only [List.map_nil, List.nil_append, List.length_nil, Nat.zero_mul, Nat.zero_add] at hfit
      have r7 := r5.part (p := p0) hpl c1 c2 c3 hc' (last_len hl') (B := ownOb 53 ((([] : List DSch)).map encS ++ [.agg szero]) zs' c')
      rw [← hT6, ownOb_box hc', ← last_set] at r7
      (refine s_take 9 rfl (by kernel_rfl) (by kernel_rfl) (v := ?v7) (fun S' hz => dquietR_of ?h7) <| s_take 11 rfl (by kernel_rfl) (by kernel_rfl) (v := ?v8) (fun S' hz => dquietR_of ?h8) <| ?k8; (case h7 | h8 => ((simp (disch := first | decide | omega | (simp only [nx]; first | done | omega)) only [go_sem, u1, hz]; (repeat with_reducible refine aI ?_)); first | done | exact rfl | omega)))
      refine s_split [10, 12] (by kernel_rfl) (by simp) ?_
      intro j_ hj_
      simp only [List.mem_cons, List.not_mem_nil, or_false] at hj_
      rcases hj_ with rfl | rfl
      · refine s_op rfl ?_
        (simp (disch := first | decide | omega | (simp only [nx]; first | done | omega)) only [go_sem, u1, y1, hob, hfit]; (repeat with_reducible refine aI ?_))
        (refine s_split [12] (by kernel_rfl) (by simp) ?_; intro j_ hj_; obtain rfl : j_ = 12 := (by simpa using hj_); clear hj_; refine s_op rfl ?_; (simp (disch := first | decide | omega | (simp only [nx]; first | done | omega)) only [go_sem, u1, y1, hob, hfit]; (repeat with_reducible refine aI ?_)))
        (refine s_done (by kernel_rfl) ?_; (simp (disch := first | decide | omega | (simp only [nx]; first | done | omega)) only [go_sem, u1, y1, hob, hfit]; (repeat with_reducible refine aI ?_)))
        obtain ⟨T7, hT7⟩ : ∃ T7 : St, T7 = (T6.set T5.next (.box 53 ((encS p0).cells ++ List.drop 3 (flat [.agg szero] ++ zs')))).set q (.box 53 [.v (.int .i64 s.kind), .sl .full [], .win T5.next 0 1 c']) := ⟨_, rfl⟩
        have r8 : SBx S k q (q + 1) L (i + 1 + (bytesS m p0).length) s.kind [] [p0] T7 := by rw [hT7]; exact r7
        rw [← hT7]
        clear hT7 r7
        obtain ⟨o9, dP9, x1, hfin⟩ := fin_sch (s := s) r8 hpl rfl hw0 hp0
        have zz := r8.zero
        refine (err_r r8.rd).mono ?_
        rintro _ _ ⟨rfl, he⟩
        rw [he]
        clear he
        (simp (disch := first | decide | omega | (simp only [nx]; first | done | omega)) only [go_sem, x1, zz, szero]; (repeat with_reducible refine aI ?_))
        obtain ⟨S9, d9, x2, x3, x4, x5⟩ := hfin _
        exact ⟨S9, d9, x2, x3, x4.obk rfl (by simp only [List.length_append, hz2, hz3, List.length_nil]; omega), x5⟩
      · refine s_op rfl ?_
        (simp (disch := first | decide | omega | (simp only [nx]; first | done | omega)) only [go_sem, u1, y1, hob, hfit]; (repeat with_reducible refine aI ?_))
        (refine s_split [10] (by kernel_rfl) (by simp) ?_; intro j_ hj_; obtain rfl : j_ = 10 := (by simpa using hj_); clear hj_; refine s_op rfl ?_; (simp (disch := first | decide | omega | (simp only [nx]; first | done | omega)) only [go_sem, u1, y1, hob, hfit]; (repeat with_reducible refine aI ?_)))
        (refine s_done (by kernel_rfl) ?_; (simp (disch := first | decide | omega | (simp only [nx]; first | done | omega)) only [go_sem, u1, y1, hob, hfit]; (repeat with_reducible refine aI ?_)))
        rw [set_swap (by omega)] at r7
        obtain ⟨T7, hT7⟩ : ∃ T7 : St, T7 = (T6.set q (.box 53 [.v (.int .i64 s.kind), .sl .full [], .win T5.next 0 1 c'])).set T5.next (.box 53 ((encS p0).cells ++ List.drop 3 (flat [.agg szero] ++ zs'))) := ⟨_, rfl⟩
        have r8 : SBx S k q (q + 1) L (i + 1 + (bytesS m p0).length) s.kind [] [p0] T7 := by rw [hT7]; exact r7
        rw [← hT7]
        clear hT7 r7
        obtain ⟨o9, dP9, x1, hfin⟩ := fin_sch (s := s) r8 hpl rfl hw0 hp0
        have zz := r8.zero
        refine (err_r r8.rd).mono ?_
        rintro _ _ ⟨rfl, he⟩
        rw [he]
        clear he
        (simp (disch := first | decide | omega | (simp only [nx]; first | done | omega)) only [go_sem, x1, zz, szero]; (repeat with_reducible refine aI ?_))
        obtain ⟨S9, d9, x2, x3, x4, x5⟩ := hfin _
        exact ⟨S9, d9, x2, x3, x4.obk rfl (by simp only [List.length_append, hz2, hz3, List.length_nil]; omega), x5⟩
    · refine s_op rfl ?_
      (simp (disch := first | decide | omega | (simp only [nx]; first | done | omega)) only [go_sem, u1, wd]; (repeat with_reducible refine aI ?_))
      refine (ih p0 (hf.parts _ hmp) (hp.2.2.2.2 _ hmp) (by omega) r1.rd hL hi1 (by omega) hd3).wf.mono ?_
      rintro _ T5 ⟨⟨rfl, h5, hF5⟩, hT5⟩
      have r5 := r1.call hpl h5 hF5 hT5
      have c1 := hF5.box q _ _ (by omega) b1
      have c2 := b2.rfr r1.rd.isbox hF5
      have c3 : PAt (q + 1) (([] : List DSch)) (.sl .full []) T5 := .inl ⟨rfl, rfl⟩
      have hq5 := hT5.lt c1
      (refine s_split [1] (by kernel_rfl) (by simp) ?_; intro j_ hj_; obtain rfl : j_ = 1 := (by simpa using hj_); clear hj_; refine s_op rfl ?_; (simp (disch := first | decide | omega | (simp only [nx]; first | done | omega)) only [go_sem, u1, c1]; (repeat with_reducible refine aI ?_)))
      (refine s_take 6 rfl (by kernel_rfl) (by kernel_rfl) (v := ?v9) (fun S' hz => dquietR_of ?h9) ?k9; (case h9 => ((simp (disch := first | decide | omega | (simp only [nx]; first | done | omega)) only [go_sem, u1, hz]; (repeat with_reducible refine aI ?_)); first | done | exact rfl | omega)))
      (refine s_split [8] (by kernel_rfl) (by simp) ?_; intro j_ hj_; obtain rfl : j_ = 8 := (by simpa using hj_); clear hj_; refine s_op rfl ?_; (simp (disch := first | decide | omega | (simp only [nx]; first | done | omega)) only [go_sem, u1]; (repeat with_reducible refine aI ?_)))
      refine dapp_ownD (es := (([] : List DSch)).map encS) heP (by kernel_rfl) hzP hzO (.inl ⟨rfl, rfl⟩) (by rw [szSc]; exact wSch _) (es2 := [.agg szero]) (by rw [szSc]; intro d hd; rw [List.mem_singleton] at hd; subst hd; rfl) (by simp <;> omega) (by rw [hbP]; simp <;> omega) fun c' zs' hl' => ?_
      rw [szSc] at hl'
      have hc' : 0 < c' := by
        rw [List.length_append, flat_append, List.length_append] at hl'
        have : (flat [D.agg szero]).length = 3 := rfl
        omega
      obtain ⟨T6, hT6⟩ : ∃ T6 : St, T6 = (T5.left (.sl .full [])).add (ownOb 53 ((([] : List DSch)).map encS ++ [.agg szero]) zs' c') := ⟨_, rfl⟩
      rw [← hT6]
      have y1 : T6.ob q = some (.box 53 [.v (.int .i64 s.kind), .sl .full ((([] : List Str)).map strD), .sl .full []]) := by
        rw [hT6, add_ne (by show q < T5.next; omega)]
        exact c1
      have hob : T6.ob T5.next = some (.box 53 (flat ((([] : List DSch)).map encS ++ [.agg szero]) ++ zs')) := by
        rw [hT6, ownOb_box hc']; exact add_eq (S := T5.left (.sl .full []))
      have hfit : (([] : List DSch)).length * 3 + 3 ≤ (flat ((([] : List DSch)).map encS ++ [.agg szero]) ++ zs').length := last_fit
      simp only [List.map_nil, List.nil_append, List.length_nil, Nat.zero_mul, Nat.zero_add] at hfit
      have r7 := r5.part (p := p0) hpl c1 c2 c3 hc' (last_len hl') (B := ownOb 53 ((([] : List DSch)).map encS ++ [.agg szero]) zs' c')
      rw [← hT6, ownOb_box hc', ← last_set] at r7
      (refine s_take 9 rfl (by kernel_rfl) (by kernel_rfl) (v := ?v10) (fun S' hz => dquietR_of ?h10) <| s_take 11 rfl (by kernel_rfl) (by kernel_rfl) (v := ?v11) (fun S' hz => dquietR_of ?h11) <| ?k11; (case h10 | h11 => ((simp (disch := first | decide | omega | (simp only [nx]; first | done | omega)) only [go_sem, u1, hz]; (repeat with_reducible refine aI ?_)); first | done | exact rfl | omega)))
      refine s_split [10, 12] (by kernel_rfl) (by simp) ?_
      intro j_ hj_
      simp only [List.mem_cons, List.not_mem_nil, or_false] at hj_
      rcases hj_ with rfl | rfl
      · refine s_op rfl ?_
        (simp (disch := first | decide | omega | (simp only [nx]; first | done | omega)) only [go_sem, u1, y1, hob, hfit]; (repeat with_reducible refine aI ?_))
        (refine s_split [12] (by kernel_rfl) (by simp) ?_; intro j_ hj_; obtain rfl : j_ = 12 := (by simpa using hj_); clear hj_; refine s_op rfl ?_; (simp (disch := first | decide | omega | (simp only [nx]; first | done | omega)) only [go_sem, u1, y1, hob, hfit]; (repeat with_reducible refine aI ?_)))
        (refine s_done (by kernel_rfl) ?_; (simp (disch := first | decide | omega | (simp only [nx]; first | done | omega)) only [go_sem, u1, y1, hob, hfit]; (repeat with_reducible refine aI ?_)))
        obtain ⟨T7, hT7⟩ : ∃ T7 : St, T7 = (T6.set T5.next (.box 53 ((encS p0).cells ++ List.drop 3 (flat [.agg szero] ++ zs')))).set q (.box 53 [.v (.int .i64 s.kind), .sl .full [], .win T5.next 0 1 c']) := ⟨_, rfl⟩
        have r8 : SBx S k q (q + 1) L (i + 1 + (bytesS m p0).length) s.kind [] [p0] T7 := by rw [hT7]; exact r7
        rw [← hT7]
        clear hT7 r7
        obtain ⟨o9, dP9, x1, hfin⟩ := fin_sch (s := s) r8 hpl rfl hw0 hp0
        have zz := r8.zero
        refine (err_r r8.rd).mono ?_
        rintro _ _ ⟨rfl, he⟩
        rw [he]
        clear he
        (simp (disch := first | decide | omega | (simp only [nx]; first | done | omega)) only [go_sem, x1, zz, szero]; (repeat with_reducible refine aI ?_))
        obtain ⟨S9, d9, x2, x3, x4, x5⟩ := hfin _
        exact ⟨S9, d9, x2, x3, x4.obk rfl (by simp only [List.length_append, hz2, hz3, List.length_nil]; omega), x5⟩
      · refine s_op rfl ?_
        (simp (disch := first | decide | omega | (simp only [nx]; first | done | omega)) only [go_sem, u1, y1, hob, hfit]; (repeat with_reducible refine aI ?_))
        (refine s_split [10] (by kernel_rfl) (by simp) ?_; intro j_ hj_; obtain rfl : j_ = 10 := (by simpa using hj_); clear hj_; refine s_op rfl ?_; (simp (disch := first | decide | omega | (simp only [nx]; first | done | omega)) only [go_sem, u1, y1, hob, hfit]; (repeat with_reducible refine aI ?_)))
        (refine s_done (by kernel_rfl) ?_; (simp (disch := first | decide | omega | (simp only [nx]; first | done | omega)) only [go_sem, u1, y1, hob, hfit]; (repeat with_reducible refine aI ?_)))
        rw [set_swap (by omega)] at r7
        obtain ⟨T7, hT7⟩ : ∃ T7 : St, T7 = (T6.set q (.box 53 [.v (.int .i64 s.kind), .sl .full [], .win T5.next 0 1 c'])).set T5.next (.box 53 ((encS p0).cells ++ List.drop 3 (flat [.agg szero] ++ zs'))) := ⟨_, rfl⟩
        have r8 : SBx S k q (q + 1) L (i + 1 + (bytesS m p0).length) s.kind [] [p0] T7 := by rw [hT7]; exact r7
        rw [← hT7]
        clear hT7 r7
        obtain ⟨o9, dP9, x1, hfin⟩ := fin_sch (s := s) r8 hpl rfl hw0 hp0
        have zz := r8.zero
        refine (err_r r8.rd).mono ?_
        rintro _ _ ⟨rfl, he⟩
        rw [he]
        clear he
        (simp (disch := first | decide | omega | (simp only [nx]; first | done | omega)) only [go_sem, x1, zz, szero]; (repeat with_reducible refine aI ?_))
        obtain ⟨S9, d9, x2, x3, x4, x5⟩ := hfin _
        exact ⟨S9, d9, x2, x3, x4.obk rfl (by simp only [List.length_append, hz2, hz3, List.length_nil]; omega), x5⟩
end Go.Proofs.YtbcabejdchkpmaaDoor

namespace Go.Proofs.YtbcabejdchkpmaaDoor
open Go.RowKit
theorem u8ne (x y : UInt8) : ((x.toNat : Int) != (y.toNat : Int)) = !decide (x = y) := by
  by_cases h : x = y
  · subst h; simp
  · have : ¬ ((x.toNat : Int) = (y.toNat : Int)) := fun e => h (UInt8.toNat_inj.1 (by omega))
    simp [h, this, bne]
set_option maxRecDepth 200000 in
set_option maxHeartbeats 8000000 in
theorem bytesEq_d (own own2 : Own) (p q : List UInt8) (hp : p.length ≤ 1000000) (hq : q.length ≤ 1000000) : DPure Tryd.prog 30 [.sl own (p.map bD), .sl own2 (q.map bD)] (.v (.bool (decide (p = q)))) := by
  refine dpure_of_dwp mixed Tryd.func30 rfl (fun _ _ => by kernel_rfl) (rs := [.tmp 4]) rfl (by kernel_rfl) trivial (fun S hS => ?_)
  by_cases hl : p.length = q.length
  · have b0 : ((p.length : Int) != (q.length : Int)) = false := by simp [hl]
    (simp (disch := first | decide | omega | (simp only [nx]; first | done | omega)) only [go_sem, b0]; (repeat with_reducible refine aI ?_))
    (refine dloop_st (fun t => List.contains [4, 5, 11, 12, 13, 14, 15, 16, 17, 18, 19, 20, 21, 22, 23, 24, 25] t) (by kernel_rfl) ?_ (p.length) (fun i f => i ≤ p.length ∧ f 5 = .v (.int .i64 (i : Nat)) ∧ (∀ j, j < i → p[j]? = q[j]?)) ?_ ?_; (exact (by (repeat' first | assumption | refine St.WF.leave ?_ _ | refine St.WF.add ?_ _ | refine St.WF.set ?_ ?_ _ | refine St.WF.grow ?_ _ _ _ | refine St.WF.keep ?_ ?_ | (first | omega | (simp only [RowOk.lo, nx]; first | done | omega))))); (exact ⟨(by omega), (by (first | (simp (disch := first | decide | omega | (simp only [nx]; first | done | omega)) only [go_sem]; first | done | rfl) | rfl)), (fun j hj => by omega)⟩); intro i g tn hn hT hg hI; obtain ⟨le, q5, hsame⟩ := hI; have q0 := hg 0 rfl; have q1 := hg 1 rfl; simp (disch := first | decide | omega | (simp only [nx]; first | done | omega)) only [go_sem] at q0 q1; clear hg; have hn' := hn; try simp only [add_next, set_next, grow_next, leave_next, drop_next] at hn')
    by_cases hlt : i < p.length
    · have b1 : decide ((i : Int) < (p.length : Int)) = true := by simp; omega
      have w1 : IntKind.i64.wrap ((i : Int) + 1) = ((i + 1 : Nat) : Int) := IntWalk.i64_in _ ⟨by omega, by omega⟩
      have hlt2 : i < q.length := by omega
      by_cases hx : p[i] = q[i]
      · have b2 : (!decide (p[i] = q[i])) = false := by simp [hx]
        (simp (disch := first | decide | omega | (simp only [nx]; first | done | omega)) only [go_sem, q0, q1, q5, b1, w1]; (repeat with_reducible refine aI ?_))
        refine ddraw_mk 9 (by kernel_rfl) ?_
        (simp (disch := first | decide | omega | (simp only [nx]; first | done | omega)) only [go_sem, q0, q1, q5, b1, b2, w1, bD_eq, u8ne]; (repeat with_reducible refine aI ?_))
        (refine ⟨by omega, (by (repeat' first | assumption | exact St.Sub.refl _ | exact RowOk.sub (by assumption) (by assumption) | refine St.Sub.trans ?_ (RowOk.sub (by assumption) (by assumption)) | refine St.Sub.add ?_ ?_ _ | refine St.Sub.set ?_ ?_ ?_ _ | refine St.Sub.keep ?_ ?_ | refine St.WF.leave ?_ _ | refine St.WF.add ?_ _ | refine St.WF.set ?_ ?_ _ | refine St.WF.grow ?_ _ _ _ | refine St.WF.keep ?_ ?_ | (first | omega | (simp only [RowOk.lo, nx]; first | done | omega)))), ?_⟩; refine ⟨by omega, ?_, ?_⟩; all_goals (try (first | (simp (disch := first | decide | omega | (simp only [nx]; first | done | omega)) only [go_sem, w1]; first | done | rfl) | rfl)))
        intro j hj
        by_cases e : j = i
        · subst e; rw [List.getElem?_eq_getElem hlt, List.getElem?_eq_getElem hlt2, hx]
        · exact hsame j (by omega)
      · have b2 : (!decide (p[i] = q[i])) = true := by simp [hx]
        (simp (disch := first | decide | omega | (simp only [nx]; first | done | omega)) only [go_sem, q0, q1, q5, b1]; (repeat with_reducible refine aI ?_))
        refine ddraw_mk 9 (by kernel_rfl) ?_
        (simp (disch := first | decide | omega | (simp only [nx]; first | done | omega)) only [go_sem, q0, q1, q5, b1, b2, bD_eq, u8ne]; (repeat with_reducible refine aI ?_))
        refine ⟨?_, (by (repeat' first | assumption | exact St.Sub.refl _ | exact RowOk.sub (by assumption) (by assumption) | refine St.Sub.trans ?_ (RowOk.sub (by assumption) (by assumption)) | refine St.Sub.add ?_ ?_ _ | refine St.Sub.set ?_ ?_ ?_ _ | refine St.Sub.keep ?_ ?_ | refine St.WF.leave ?_ _ | refine St.WF.add ?_ _ | refine St.WF.set ?_ ?_ _ | refine St.WF.grow ?_ _ _ _ | refine St.WF.keep ?_ ?_ | (first | omega | (simp only [RowOk.lo, nx]; first | done | omega))))⟩
        rw [decide_eq_false]
        · rfl
        · intro e; subst e; exact hx rfl
    · have b1 : decide ((i : Int) < (p.length : Int)) = false := by simp; omega
      (simp (disch := first | decide | omega | (simp only [nx]; first | done | omega)) only [go_sem, q0, q1, q5, b1]; (repeat with_reducible refine aI ?_))
      refine ⟨?_, (by (repeat' first | assumption | exact St.Sub.refl _ | exact RowOk.sub (by assumption) (by assumption) | refine St.Sub.trans ?_ (RowOk.sub (by assumption) (by assumption)) | refine St.Sub.add ?_ ?_ _ | refine St.Sub.set ?_ ?_ ?_ _ | refine St.Sub.keep ?_ ?_ | refine St.WF.leave ?_ _ | refine St.WF.add ?_ _ | refine St.WF.set ?_ ?_ _ | refine St.WF.grow ?_ _ _ _ | refine St.WF.keep ?_ ?_ | (first | omega | (simp only [RowOk.lo, nx]; first | done | omega))))⟩
      rw [decide_eq_true]
      · rfl
      · refine List.ext_getElem? fun j => ?_
        by_cases hj : j < i
        · exact hsame j hj
        · rw [List.getElem?_eq_none (by omega), List.getElem?_eq_none (by omega)]
  · have b0 : ((p.length : Int) != (q.length : Int)) = true := by simp; omega
    (simp (disch := first | decide | omega | (simp only [nx]; first | done | omega)) only [go_sem, b0]; (repeat with_reducible refine aI ?_))
    refine ⟨?_, (by (repeat' first | assumption | exact St.Sub.refl _ | exact RowOk.sub (by assumption) (by assumption) | refine St.Sub.trans ?_ (RowOk.sub (by assumption) (by assumption)) | refine St.Sub.add ?_ ?_ _ | refine St.Sub.set ?_ ?_ ?_ _ | refine St.Sub.keep ?_ ?_ | refine St.WF.leave ?_ _ | refine St.WF.add ?_ _ | refine St.WF.set ?_ ?_ _ | refine St.WF.grow ?_ _ _ _ | refine St.WF.keep ?_ ?_ | (first | omega | (simp only [RowOk.lo, nx]; first | done | omega))))⟩
    rw [decide_eq_false]
    · rfl
    · intro e; subst e; exact hl rfl
end Go.Proofs.YtbcabejdchkpmaaDoor

namespace Go.Proofs.YtbcabejdchkpmaaDoor
open Go.RowKit Go.Extern.Stop Go.Stop Go.Extern
/-! The value that a tree without memory stands for. -/
mutual
def D.val : D → Option Value
  | .v x => some x
  | .ifc t d => (D.val d).map (Value.iface t ·)
  | .agg cs => (valL cs).bind fun vs => bif vs.all (·.oneCell') then some (.agg vs.toArray) else none
  | _ => none
def valL : List D → Option (List Value)
  | [] => some []
  | d :: l => (D.val d).bind fun x => (valL l).map (x :: ·)
end
section
variable {P : Program} {w : World} {η : Names} {X : Nat → Nat → Prop}
mutual
theorem rep_val_iff : ∀ {d : D} {x : Value}, D.val d = some x → ∀ {y : Value}, Rep P w η X d y ↔ y = x
  | .v x, _, h, y => by simp only [D.val, Option.some.injEq] at h; subst h; simp only [Rep]
  | .ifc t d, _, h, y => by
    simp only [D.val, Option.map_eq_some_iff] at h
    obtain ⟨z, h1, rfl⟩ := h
    simp only [Rep]
    constructor
    · rintro ⟨u, rfl, hu⟩
      rw [(rep_val_iff h1).1 hu]
    · rintro rfl
      exact ⟨z, rfl, (rep_val_iff h1).2 rfl⟩
  | .agg cs, _, h, y => by
    simp only [D.val, Option.bind_eq_some_iff] at h
    obtain ⟨vs, h1, h2⟩ := h
    cases hb : vs.all (·.oneCell') with
    | false => rw [hb] at h2; cases h2
    | true =>
      rw [hb] at h2
      simp only [cond_true, Option.some.injEq] at h2
      subst h2
      simp only [Rep]
      constructor
      · rintro ⟨us, rfl, hu, _⟩
        rw [(rep_valL_iff h1).1 hu]
      · rintro rfl
        exact ⟨vs, rfl, (rep_valL_iff h1).2 rfl, fun u hu => List.all_eq_true.1 hb u hu⟩
  | .tup _, _, h, _ => by simp [D.val] at h
  | .fn _ _ _, _, h, _ => by simp [D.val] at h
  | .loc _ _, _, h, _ => by simp [D.val] at h
  | .rd _ _, _, h, _ => by simp [D.val] at h
  | .sl _ _, _, h, _ => by simp [D.val] at h
  | .win _ _ _ _, _, h, _ => by simp [D.val] at h
theorem rep_valL_iff : ∀ {l : List D} {vs : List Value}, valL l = some vs → ∀ {us : List Value}, RepL P w η X l us ↔ us = vs
  | [], _, h, us => by simp only [valL, Option.some.injEq] at h; subst h; simp only [RepL]
  | d :: l, _, h, us => by
    simp only [valL, Option.bind_eq_some_iff, Option.map_eq_some_iff] at h
    obtain ⟨x, h1, xs, h2, rfl⟩ := h
    simp only [RepL]
    constructor
    · rintro ⟨y, ys, rfl, hy, hys⟩
      rw [(rep_val_iff h1).1 hy, (rep_valL_iff h2).1 hys]
    · rintro rfl
      exact ⟨x, xs, rfl, (rep_val_iff h1).2 rfl, (rep_valL_iff h2).2 rfl⟩
end
end
section
variable {P : Program} {S : St} {K : D → St → Prop}
theorem dext {g : FuncId} {fn : Func} {e : Array Value → Sem Value} (hf : P.funcs[g]? = some fn) (hname : (fn.name == "runtime.NumGoroutine") = false) (hb : fn.body.isNone = true) (hn : Extern.findNext fn = none) (hx : Extern.find fn = some e) {args : List D}
    (h : ∀ base η w vs, Mem P base S η w → RepL P w η (Fix P S η) args vs → ∃ d S' η' v w', (e vs.toArray).run P w = .ok v w' ∧ K d S' ∧ Rep P w' η' (Fix P S' η') d v ∧ Goes P base S η w S' η' w') : DCalls P g args S K := fun base η w vs hM hr => by
  obtain ⟨d, S', η', v, w', h1, h2, h3, h4⟩ := h base η w vs hM hr
  refine .inr ⟨d, S', η', v, w', ?_, h2, h3, h4⟩
  rw [run_callFunc_extern hf hname hb hn hx, h1]
  rfl
theorem dext_pure {g : FuncId} {fn : Func} {e : Array Value → Sem Value} (hf : P.funcs[g]? = some fn) (hname : (fn.name == "runtime.NumGoroutine") = false) (hb : fn.body.isNone = true) (hn : Extern.findNext fn = none) (hx : Extern.find fn = some e) {args : List D} {us : List Value} {r : Value} {d : D}
    (hv : valL args = some us) (h : ∀ w, (e us.toArray).run P w = .ok r w) (hd : D.val d = some r) (hk : K d S) : DCalls P g args S K :=
  dext hf hname hb hn hx fun base η w vs hM hr => by
    rw [(rep_valL_iff hv).1 hr]
    exact ⟨d, S, η, r, w, h w, hk, (rep_val_iff hd).2 rfl, Goes.refl hM⟩
theorem dmeth_pure {t : TypeId} {d d' : D} {m : String} {g : FuncId} {x r : Value} (hd : D.val d = some x) (hd' : D.val d' = some r) (h : ∀ w, (method (P.types.size + Made.depth) t x m).run P w = .ok (g, r) w) : DMeth P t d m g d' := fun w η X v hr => by
  rw [(rep_val_iff hd).1 hr]
  exact ⟨r, h w, (rep_val_iff hd').2 rfl⟩
end
abbrev tyV (t : TypeId) : Value := .pointer (some ⟨1, t, none⟩)
abbrev tyD (t : TypeId) : D := .agg [.v (tyV t)]
abbrev rtD (t : TypeId) : D := .ifc 122 (tyD t)
theorem rlm (z : Sem Value) (f : TypeId → Addr → Nat → Nat → Sem Value) (v : Value) :
    ReflectliteValue.method z f #[v] = (do match ← ReflectliteValue.parts v with | none => z | some (t, a, fl) => f t a fl (fl % 32)) := rfl
theorem rls (v x : Value) : ReflectliteValue.set #[v, x] = (do
    let (some (dst, a, fl), some (src, b, _)) := (← ReflectliteValue.parts v, ← ReflectliteValue.parts x)
      | unsupported (.noEntry "extern/(internal/reflectlite.Value).Set.zeroValue")
    if fl / ReflectliteValue.flagAddr % 2 == 0 then unsupported (.noEntry "extern/(internal/reflectlite.Value).Set.unaddressable")
    let val ← loadVar src b
    if ← Rtype.directlyAssignable dst src then storeVar dst a val
    else if ← Rtype.implements dst src then
      if (← Rtype.kind src) == 20 then
        match val with
        | .nilIface => unsupported (.noEntry "extern/reflectlite: a nil value of one interface type handed on as a value of another")
        | _ => storeVar dst a val
      else storeVar dst a (.iface src val)
    else panicString ("reflectlite.Set: value of type " ++ (← Rtype.spelt src) ++ " is not assignable to type " ++ (← Rtype.spelt dst))
    pure (.tuple #[])) := rfl

section
variable {S : St} {K : D → St → Prop}
theorem unpackPEr (a : Addr) (w : World) : (ReflectliteValue.unpack (.iface 88 (.pointer (some a)))).run Tryd.prog w = .ok (.agg #[tyV 88, .pointer (some ⟨w.heap.size, 0, none⟩), .int .u64 150]) (w.alloc (.cells #[.pointer (some a)] 88)) := by kernel_rfl
theorem rlValueOfPEr {k off : Nat} (h : K (.agg [.v (tyV 88), .loc S.next 0, .v (.int .u64 150)]) (S.add (.box 88 [.loc k off]))) : DCalls Tryd.prog 73 [.ifc 88 (.loc k off)] S K :=
  dext (e := fun args => ReflectliteValue.unpack (args.getD 0 (.tuple #[]))) Tryd.func73 (by kernel_rfl) (by kernel_rfl) (by kernel_rfl) (by kernel_rfl) fun base η w vs hM hr => by
    simp only [RepL, Rep] at hr
    obtain ⟨_, _, rfl, ⟨_, rfl, b, hb, rfl⟩, rfl⟩ := hr
    have G := goes_name hM (.box 88 [.loc k off]) #[.pointer (some ⟨b, off, none⟩)] 88 (.inl ⟨_, [.pointer (some ⟨b, off, none⟩)], rfl, rfl, by simp only [RepL, Rep]; exact ⟨_, _, rfl, ⟨b, hb, rfl⟩, rfl⟩, fun x hx => by rw [List.mem_singleton] at hx; subst hx; rfl⟩)
    refine ⟨_, _, _, _, _, unpackPEr _ w, h, ?_, G⟩
    simp only [Rep, RepL]
    exact ⟨[_, _, _], rfl, ⟨_, _, rfl, rfl, _, _, rfl, ⟨w.heap.size, by simp only [Names.add, ↓reduceIte], rfl⟩, _, _, rfl, rfl, rfl⟩, fun x hx => by simp only [List.mem_cons, List.not_mem_nil, or_false] at hx; rcases hx with rfl | rfl | rfl <;> rfl⟩
theorem typePEr (a : Addr) (w : World) : (ReflectliteValue.methodAny (ReflectliteValue.valueError "reflectlite.Value.Type" 0) (fun t _ _ _ => ReflectliteType.toType t) #[.agg #[tyV 88, .pointer (some a), .int .u64 150]]).run Tryd.prog w = .ok (.iface 122 (.agg #[tyV 88])) w := by kernel_rfl
theorem rlTypePEr {k off : Nat} (h : K (rtD 88) S) : DCalls Tryd.prog 74 [.agg [.v (tyV 88), .loc k off, .v (.int .u64 150)]] S K :=
  dext (e := ReflectliteValue.methodAny (ReflectliteValue.valueError "reflectlite.Value.Type" 0) (fun t _ _ _ => ReflectliteType.toType t)) Tryd.func74 (by kernel_rfl) (by kernel_rfl) (by kernel_rfl) (by kernel_rfl) fun base η w vs hM hr => by
    simp only [RepL, Rep] at hr
    obtain ⟨_, _, rfl, ⟨_, rfl, ⟨_, _, rfl, rfl, _, _, rfl, ⟨b, hb, rfl⟩, _, _, rfl, rfl, rfl⟩, _⟩, rfl⟩ := hr
    exact ⟨_, S, η, _, w, typePEr _ w, h, (rep_val_iff (d := rtD 88) rfl).2 rfl, Goes.refl hM⟩
theorem partsPEr (a : Addr) (w : World) : (ReflectliteValue.parts (.agg #[tyV 88, .pointer (some a), .int .u64 150])).run Tryd.prog w = .ok (some (88, a, 150)) w := by kernel_rfl
theorem rlIsNilPEr {b k off : Nat} (hb : S.ob b = some (.box 88 [.loc k off])) (h : K (.v (.bool false)) S) : DCalls Tryd.prog 75 [.agg [.v (tyV 88), .loc b 0, .v (.int .u64 150)]] S K :=
  dext (e := ReflectliteValue.method (ReflectliteValue.valueError "reflectlite.Value.IsNil" 0) ReflectliteValue.isNil) Tryd.func75 (by kernel_rfl) (by kernel_rfl) (by kernel_rfl) (by kernel_rfl) fun base η w vs hM hr => by
    simp only [RepL, Rep] at hr
    obtain ⟨_, _, rfl, ⟨_, rfl, ⟨_, _, rfl, rfl, _, _, rfl, ⟨q, hq, rfl⟩, _, _, rfl, rfl, rfl⟩, _⟩, rfl⟩ := hr
    obtain ⟨us, g1, g2, g3⟩ := hM.box b _ _ q hb hq
    simp only [RepL, Rep] at g2
    obtain ⟨_, _, rfl, ⟨p, hp, rfl⟩, rfl⟩ := g2
    have ha : w.cell? ⟨q, 0, none⟩ = some (.pointer (some ⟨p, off, none⟩)) := by simp [World.cell?, g1]
    refine ⟨_, S, η, .bool false, w, ?_, h, by simp only [Rep], Goes.refl hM⟩
    rw [rlm]
    simp only [Sem.run_bind, partsPEr, Result.andThen]
    simp [ReflectliteValue.isNil, loadVar, isAgg, underlying, Tryd.underlying88, ha, Result.andThen]
theorem elemOfPEr (w : World) : (Rtype.elem? 88).run Tryd.prog w = .ok (some 25) w := by kernel_rfl
theorem mkPEr (p : Addr) (w : World) : (ReflectliteValue.mk 25 p ReflectliteValue.flagAddr).run Tryd.prog w = .ok (.agg #[tyV 25, .pointer (some p), .int .u64 386]) w := by kernel_rfl
theorem rlElemPEr {b k off : Nat} (hb : S.ob b = some (.box 88 [.loc k off])) (h : K (.agg [.v (tyV 25), .loc k off, .v (.int .u64 386)]) S) : DCalls Tryd.prog 84 [.agg [.v (tyV 88), .loc b 0, .v (.int .u64 150)]] S K :=
  dext (e := ReflectliteValue.method (ReflectliteValue.valueError "reflectlite.Value.Elem" 0) ReflectliteValue.elem) Tryd.func84 (by kernel_rfl) (by kernel_rfl) (by kernel_rfl) (by kernel_rfl) fun base η w vs hM hr => by
    simp only [RepL, Rep] at hr
    obtain ⟨_, _, rfl, ⟨_, rfl, ⟨_, _, rfl, rfl, _, _, rfl, ⟨q, hq, rfl⟩, _, _, rfl, rfl, rfl⟩, _⟩, rfl⟩ := hr
    obtain ⟨us, g1, g2, g3⟩ := hM.box b _ _ q hb hq
    simp only [RepL, Rep] at g2
    obtain ⟨_, _, rfl, ⟨p, hp, rfl⟩, rfl⟩ := g2
    have ha : w.cell? ⟨q, 0, none⟩ = some (.pointer (some ⟨p, off, none⟩)) := by simp [World.cell?, g1]
    refine ⟨_, S, η, .agg #[tyV 25, .pointer (some ⟨p, off, none⟩), .int .u64 386], w, ?_, h, ?_, Goes.refl hM⟩
    · rw [rlm]
      simp only [Sem.run_bind, partsPEr, Result.andThen]
      simp [ReflectliteValue.elem, loadVar, isAgg, underlying, Tryd.underlying88, ha, Result.andThen, elemOfPEr, mkPEr]
    · simp only [Rep, RepL]
      exact ⟨[_, _, _], rfl, ⟨_, _, rfl, rfl, _, _, rfl, ⟨p, hp, rfl⟩, _, _, rfl, rfl, rfl⟩, fun x hx => by simp only [List.mem_cons, List.not_mem_nil, or_false] at hx; rcases hx with rfl | rfl | rfl <;> rfl⟩
theorem methKindPEr : DMeth Tryd.prog 122 (tyD 88) "Kind" 118 (.v (tyV 88)) := dmeth_pure rfl rfl fun w => by kernel_rfl
theorem methKindEr : DMeth Tryd.prog 122 (tyD 25) "Kind" 118 (.v (tyV 25)) := dmeth_pure rfl rfl fun w => by kernel_rfl
theorem rlKindPEr (h : K (.v (.int .u8 22)) S) : DCalls Tryd.prog 118 [.v (tyV 88)] S K :=
  dext_pure (e := ReflectliteType.abiMethod fun t => do pure (.int .u8 (← Rtype.kind t))) Tryd.func118 (by kernel_rfl) (by kernel_rfl) (by kernel_rfl) (by kernel_rfl) (r := .int .u8 22) rfl (fun w => by kernel_rfl) rfl h
theorem rlKindEr (h : K (.v (.int .u8 2)) S) : DCalls Tryd.prog 118 [.v (tyV 25)] S K :=
  dext_pure (e := ReflectliteType.abiMethod fun t => do pure (.int .u8 (← Rtype.kind t))) Tryd.func118 (by kernel_rfl) (by kernel_rfl) (by kernel_rfl) (by kernel_rfl) (r := .int .u8 2) rfl (fun w => by kernel_rfl) rfl h
theorem methElemPEr : DMeth Tryd.prog 122 (tyD 88) "Elem" 131 (tyD 88) := dmeth_pure rfl rfl fun w => by kernel_rfl
theorem rlTElemPEr (h : K (rtD 25) S) : DCalls Tryd.prog 131 [tyD 88] S K :=
  dext_pure (e := ReflectliteType.method ReflectliteType.elem) Tryd.func131 (by kernel_rfl) (by kernel_rfl) (by kernel_rfl) (by kernel_rfl) (r := .iface 122 (.agg #[tyV 25])) rfl (fun w => by kernel_rfl) rfl h
theorem methImplEr : DMeth Tryd.prog 122 (tyD 25) "Implements" 132 (tyD 25) := dmeth_pure rfl rfl fun w => by kernel_rfl
theorem rlImplEr (h : K (.v (.bool true)) S) : DCalls Tryd.prog 132 [tyD 25, rtD 35] S K :=
  dext_pure (e := ReflectliteType.relation "Implements" ReflectliteType.implements_) Tryd.func132 (by kernel_rfl) (by kernel_rfl) (by kernel_rfl) (by kernel_rfl) (r := .bool true) rfl (fun w => by kernel_rfl) rfl h
theorem methAsgEr : DMeth Tryd.prog 122 (tyD 25) "AssignableTo" 129 (tyD 25) := dmeth_pure rfl rfl fun w => by kernel_rfl
theorem rlAsgEr (h : K (.v (.bool true)) S) : DCalls Tryd.prog 129 [tyD 25, rtD 25] S K :=
  dext_pure (e := ReflectliteType.relation "AssignableTo" ReflectliteType.assignableTo) Tryd.func129 (by kernel_rfl) (by kernel_rfl) (by kernel_rfl) (by kernel_rfl) (r := .bool true) rfl (fun w => by kernel_rfl) rfl h
theorem typeOfEr (x : Value) (w : World) : (ReflectliteType.typeOf #[.iface 25 x]).run Tryd.prog w = .ok (.iface 122 (.agg #[tyV 25])) w := by kernel_rfl
theorem rlTypeOfEr {d : D} (h : K (rtD 25) S) : DCalls Tryd.prog 83 [.ifc 25 d] S K :=
  dext (e := ReflectliteType.typeOf) Tryd.func83 (by kernel_rfl) (by kernel_rfl) (by kernel_rfl) (by kernel_rfl) fun base η w vs hM hr => by
    simp only [RepL, Rep] at hr
    obtain ⟨_, _, rfl, ⟨x, rfl, _⟩, rfl⟩ := hr
    exact ⟨_, S, η, _, w, typeOfEr x w, h, (rep_val_iff (d := rtD 25) rfl).2 rfl, Goes.refl hM⟩
end


section
variable {S : St} {K : D → St → Prop}
end

end Go.Proofs.YtbcabejdchkpmaaDoor

namespace Go.Proofs.YtbcabejdchkpmaaDoor
open Go.RowKit Go.Extern.Stop Go.Stop Go.Extern
abbrev erD (n : Int) : D := .ifc 25 (.v (.int .i64 n))
section
variable {P : Program} {S : St} {K : D → St → Prop}
end
section
variable {S : St} {K : D → St → Prop} {u : D}
end
theorem unpackEr (n : Int) (w : World) : (ReflectliteValue.unpack (.iface 25 (.int .i64 n))).run Tryd.prog w = .ok (.agg #[tyV 25, .pointer (some ⟨w.heap.size, 0, none⟩), .int .u64 130]) (w.alloc (.cells #[.int .i64 n] 25)) := by kernel_rfl
section
variable {S : St} {K : D → St → Prop}
theorem rlValueOfEr {n : Int} (h : K (.agg [.v (tyV 25), .loc S.next 0, .v (.int .u64 130)]) (S.add (.box 25 [.v (.int .i64 n)]))) : DCalls Tryd.prog 73 [erD n] S K :=
  dext (e := fun args => ReflectliteValue.unpack (args.getD 0 (.tuple #[]))) Tryd.func73 (by kernel_rfl) (by kernel_rfl) (by kernel_rfl) (by kernel_rfl) fun base η w vs hM hr => by
    simp only [RepL, Rep] at hr
    obtain ⟨_, _, rfl, ⟨_, rfl, rfl⟩, rfl⟩ := hr
    have G := goes_name hM (.box 25 [.v (.int .i64 n)]) #[.int .i64 n] 25 (.inl ⟨_, [.int .i64 n], rfl, rfl, by simp only [RepL, Rep]; exact ⟨_, _, rfl, rfl, rfl⟩, fun x hx => by rw [List.mem_singleton] at hx; subst hx; rfl⟩)
    refine ⟨_, _, _, _, _, unpackEr _ w, h, ?_, G⟩
    simp only [Rep, RepL]
    exact ⟨[_, _, _], rfl, ⟨_, _, rfl, rfl, _, _, rfl, ⟨w.heap.size, by simp only [Names.add, ↓reduceIte], rfl⟩, _, _, rfl, rfl, rfl⟩, fun x hx => by simp only [List.mem_cons, List.not_mem_nil, or_false] at hx; rcases hx with rfl | rfl | rfl <;> rfl⟩
end

theorem partsEra (a : Addr) (w : World) : (ReflectliteValue.parts (.agg #[tyV 25, .pointer (some a), .int .u64 386])).run Tryd.prog w = .ok (some (25, a, 386)) w := by kernel_rfl
theorem partsEr (a : Addr) (w : World) : (ReflectliteValue.parts (.agg #[tyV 25, .pointer (some a), .int .u64 130])).run Tryd.prog w = .ok (some (25, a, 130)) w := by kernel_rfl
theorem directEr (w : World) : (Rtype.directlyAssignable 25 25).run Tryd.prog w = .ok true w := by kernel_rfl
theorem sizeEr (w : World) : (sizeOf 25).run Tryd.prog w = .ok 1 w := by kernel_rfl
theorem setEr {b a : Nat} {x : Value} {n : Int} {W : World} (hb : W.heap[b]? = some (.cells [x].toArray 25 (0, 0))) (ha : W.cell? ⟨a, 0, none⟩ = some (.int .i64 n)) :
    (ReflectliteValue.set #[.agg #[tyV 25, .pointer (some ⟨b, 0, none⟩), .int .u64 386], .agg #[tyV 25, .pointer (some ⟨a, 0, none⟩), .int .u64 130]]).run Tryd.prog W = .ok (.tuple #[]) (W.setRow b [.int .i64 n].toArray) := by
  have q := run_storeCells_at Tryd.prog b 0 25 [.int .i64 n] 0 [x].toArray W hb (by simp) (by simp [Value.oneCell'])
  rw [rls]
  simp only [Sem.run_bind, partsEra, partsEr, Result.andThen]
  simp [ReflectliteValue.flagAddr, loadVar, isAgg, underlying, Tryd.underlying25, ha, Result.andThen, directEr, storeVar, sizeEr, Value.cells] at q ⊢
  simp [q]
theorem rlSetEr {S : St} {K : D → St → Prop} {a b : Nat} {d0 : D} {n : Int} (hb : S.ob b = some (.box 25 [d0])) (ha : S.ob a = some (.box 25 [.v (.int .i64 n)])) (h : K (.tup []) (S.set b (.box 25 [.v (.int .i64 n)]))) :
    DCalls Tryd.prog 85 [.agg [.v (tyV 25), .loc b 0, .v (.int .u64 386)], .agg [.v (tyV 25), .loc a 0, .v (.int .u64 130)]] S K :=
  dext (e := ReflectliteValue.set) Tryd.func85 (by kernel_rfl) (by kernel_rfl) (by kernel_rfl) (by kernel_rfl) fun base η w vs hM hr => by
    simp only [RepL, Rep] at hr
    obtain ⟨_, _, rfl, ⟨_, rfl, ⟨_, _, rfl, rfl, _, _, rfl, ⟨q, hq, rfl⟩, _, _, rfl, rfl, rfl⟩, _⟩, _, _, rfl, ⟨_, rfl, ⟨_, _, rfl, rfl, _, _, rfl, ⟨p, hp, rfl⟩, _, _, rfl, rfl, rfl⟩, _⟩, rfl⟩ := hr
    obtain ⟨us, g1, g2, g3⟩ := hM.box b _ _ q hb hq
    obtain ⟨us', k1, k2, k3⟩ := hM.box a _ _ p ha hp
    simp only [RepL] at g2
    obtain ⟨x, _, rfl, hx, rfl⟩ := g2
    simp only [RepL] at k2
    obtain ⟨y, _, rfl, hy, rfl⟩ := k2
    have hy0 := hy
    simp only [Rep] at hy
    subst hy
    have hc : w.cell? ⟨p, 0, none⟩ = some (.int .i64 n) := by simp [World.cell?, k1]
    have G := goes_set hM (cs' := [.v (.int .i64 n)]) (vs' := [_]) hb hq rfl (by simp only [RepL]; exact ⟨_, _, rfl, hy0, rfl⟩) k3
    exact ⟨_, _, _, _, _, setEr g1 hc, h, by simp only [Rep, RepL]; exact ⟨[], rfl, rfl⟩, G⟩

end Go.Proofs.YtbcabejdchkpmaaDoor

namespace Go.Proofs.YtbcabejdchkpmaaDoor
open Go.RowKit
theorem bnil_eq0 (k : Nat) : dbin Tryd.prog .eql 35 (.tmp k) (.const .nilIface) (.v .nilIface) (.v .nilIface) = some (True, .v (.bool true)) := by kernel_rfl
set_option maxRecDepth 200000 in
set_option maxHeartbeats 4000000 in
theorem as0Walk {S : St} {n : Int} {x0 : D} {kb kc : Nat} {K : D → St → Prop} (hk : S.ob kc = some (.box 25 [x0])) (hb : S.ob kb = some (.box 88 [.loc kc 0]))
    (h : ∀ T, S.next ≤ T.next → T.WF → (∀ j o, j ≠ kc → S.ob j = some o → T.ob j = some o) → T.ob kc = some (.box 25 [.v (.int .i64 n)]) → K (.v (.bool true)) T) :
    DCalls Tryd.prog 76 [erD n, .ifc 88 (.loc kc 0), .agg [.v (tyV 88), .loc kb 0, .v (.int .u64 150)], rtD 25] S K := by
  refine dcalls_inline mixed Tryd.func76 rfl (fun _ _ => by kernel_rfl) (rs := [.tmp 8]) rfl (by kernel_rfl) (fun hS => ?_)
  (simp (disch := first | decide | omega | (simp only [nx]; first | done | omega)) only [go_sem]; (repeat with_reducible refine aI ?_))
  (refine dloop_st (fun t => List.contains [0, 8, 9, 10, 11, 12, 14, 15, 16, 17, 18, 19, 20, 21, 22, 23, 24, 25, 26, 27, 28, 29, 30, 31, 32, 33, 34, 35, 36, 37, 38, 39, 40, 41, 42, 43, 44, 45, 46, 47, 48, 49, 50, 51, 52, 53, 54, 55, 56, 57, 58, 59, 60, 61] t) (by kernel_rfl) ?_ (0) (fun i f => i ≤ 0 ∧ f 0 = erD n ∧ f 8 = .v (.bool false)) ?_ ?_; (exact (by (repeat' first | assumption | refine St.WF.leave ?_ _ | refine St.WF.add ?_ _ | refine St.WF.set ?_ ?_ _ | refine St.WF.grow ?_ _ _ _ | refine St.WF.keep ?_ ?_ | (first | omega | (simp only [RowOk.lo, nx]; first | done | omega))))); (exact ⟨(by omega), (by (first | (simp (disch := first | decide | omega | (simp only [nx]; first | done | omega)) only [go_sem]; first | done | rfl) | rfl)), (by (first | (simp (disch := first | decide | omega | (simp only [nx]; first | done | omega)) only [go_sem]; first | done | rfl) | rfl))⟩); intro i g tn hn hT hg hI; obtain ⟨le, q0, q8⟩ := hI; have q1 := hg 1 rfl; have q3 := hg 3 rfl; have q6 := hg 6 rfl; simp (disch := first | decide | omega | (simp only [nx]; first | done | omega)) only [go_sem] at q1 q3 q6; clear hg; have hn' := hn; try simp only [add_next, set_next, grow_next, leave_next, drop_next] at hn')
  have hB : ∀ j o, S.ob j = some o → (St.mk tn (S.add (.box 107 [.v (tyV 88), .loc kb 0, .v (.int .u64 150)])).ob).ob j = some o := fun j o ho => by
    have hkl := hS.lt ho
    show (if j = S.next then _ else S.ob j) = _
    rw [if_neg (by omega), ho]
  (simp (disch := first | decide | omega | (simp only [nx]; first | done | omega)) only [go_sem, q0, q1, q3, q6]; (repeat with_reducible refine aI ?_))
  refine rlTypeOfEr ?_
  (simp (disch := first | decide | omega | (simp only [nx]; first | done | omega)) only [go_sem, q0, q1, q3, q6]; (repeat with_reducible refine aI ?_))
  refine dinvoke_mk methAsgEr (rlAsgEr ?_)
  (simp (disch := first | decide | omega | (simp only [nx]; first | done | omega)) only [go_sem, q0, q1, q3, q6]; (repeat with_reducible refine aI ?_))
  refine rlElemPEr (hB _ _ hb) ?_
  (simp (disch := first | decide | omega | (simp only [nx]; first | done | omega)) only [go_sem, q0, q1, q3, q6]; (repeat with_reducible refine aI ?_))
  refine rlValueOfEr ?_
  (simp (disch := first | decide | omega | (simp only [nx]; first | done | omega)) only [go_sem, q0, q1, q3, q6]; (repeat with_reducible refine aI ?_))
  have hkc := hS.lt hk
  have hkn : kc ≠ tn := by omega
  refine rlSetEr (d0 := x0) (n := n) ?_ ?_ ?_
  · show (if kc = tn then _ else _) = _
    rw [if_neg hkn]; exact hB _ _ hk
  · show (if tn = tn then _ else _) = _
    rw [if_pos rfl]
  (simp (disch := first | decide | omega | (simp only [nx]; first | done | omega)) only [go_sem, q0, q1, q3, q6]; (repeat with_reducible refine aI ?_))
  refine h _ ?_ ?_ (fun j o hj ho => ?_) ?_
  · show S.next ≤ tn + 1
    omega
  · exact (by (repeat' first | assumption | refine St.WF.leave ?_ _ | refine St.WF.add ?_ _ | refine St.WF.set ?_ ?_ _ | refine St.WF.grow ?_ _ _ _ | refine St.WF.keep ?_ ?_ | (first | omega | (simp only [RowOk.lo, nx]; first | done | omega))))
  · show (if j = kc then _ else if j = tn then _ else _) = _
    have := hS.lt ho
    rw [if_neg hj, if_neg (by omega)]; exact hB _ _ ho
  · show (if kc = kc then _ else _) = _
    rw [if_pos rfl]
set_option maxRecDepth 200000 in
set_option maxHeartbeats 4000000 in
theorem as0 {S : St} {n : Int} {x0 : D} {kc : Nat} {K : D → St → Prop} (hk : S.ob kc = some (.box 25 [x0]))
    (h : ∀ T, S.next ≤ T.next → T.WF → (∀ j o, j ≠ kc → S.ob j = some o → T.ob j = some o) → T.ob kc = some (.box 25 [.v (.int .i64 n)]) → K (.v (.bool true)) T) :
    DCalls Tryd.prog 61 [erD n, .ifc 88 (.loc kc 0)] S K := by
  refine dcalls_inline mixed Tryd.func61 rfl (fun _ _ => by kernel_rfl) (rs := [.tmp 4]) rfl (by kernel_rfl) (fun hS => ?_)
  unfold erD
  (simp (disch := first | decide | omega | (simp only [nx]; first | done | omega)) only [go_sem]; (repeat with_reducible refine aI ?_))
  refine rlValueOfPEr ?_
  (simp (disch := first | decide | omega | (simp only [nx]; first | done | omega)) only [go_sem]; (repeat with_reducible refine aI ?_))
  refine rlTypePEr ?_
  (simp (disch := first | decide | omega | (simp only [nx]; first | done | omega)) only [go_sem]; (repeat with_reducible refine aI ?_))
  have k22 : ((22 : Int) != 22) = false := by decide
  have k20 : ((2 : Int) != 20) = true := by decide
  refine dinvoke_mk methKindPEr (rlKindPEr ?_)
  (simp (disch := first | decide | omega | (simp only [nx]; first | done | omega)) only [go_sem, k22]; (repeat with_reducible refine aI ?_))
  refine rlIsNilPEr (k := kc) (off := 0) ?_ ?_
  · (first | (simp (disch := first | decide | omega | (simp only [nx]; first | done | omega)) only [go_sem]; first | done | rfl) | rfl)
  (simp (disch := first | decide | omega | (simp only [nx]; first | done | omega)) only [go_sem, k22]; (repeat with_reducible refine aI ?_))
  refine dinvoke_mk methElemPEr (rlTElemPEr ?_)
  (simp (disch := first | decide | omega | (simp only [nx]; first | done | omega)) only [go_sem]; (repeat with_reducible refine aI ?_))
  refine dinvoke_mk methKindEr (rlKindEr ?_)
  (simp (disch := first | decide | omega | (simp only [nx]; first | done | omega)) only [go_sem, k20]; (repeat with_reducible refine aI ?_))
  refine dinvoke_mk methImplEr (rlImplEr ?_)
  (simp (disch := first | decide | omega | (simp only [nx]; first | done | omega)) only [go_sem]; (repeat with_reducible refine aI ?_))
  have hkc := hS.lt hk
  have hB : ∀ j o, S.ob j = some o → (((S.add (.box 88 [.loc kc 0])).add (.box 107 [.v (.pointer none), .v (.pointer none), .v (.int .u64 0)])).set (S.next + 1) (.box 107 [.v (tyV 88), .loc S.next 0, .v (.int .u64 150)])).ob j = some o := fun j o ho => by
    have hkl := hS.lt ho
    show (if j = S.next + 1 then _ else if j = S.next + 1 then _ else if j = S.next then _ else S.ob j) = _
    rw [if_neg (by omega), if_neg (by omega), if_neg (by omega), ho]
  refine as0Walk (hB _ _ hk) (kb := S.next) ?_ fun T t1 t2 t3 t4 => ?_
  · (first | (simp (disch := first | decide | omega | (simp only [nx]; first | done | omega)) only [go_sem]; first | done | rfl) | rfl)
  (simp (disch := first | decide | omega | (simp only [nx]; first | done | omega)) only [go_sem]; (repeat with_reducible refine aI ?_))
  exact h T (by have : S.next + 1 + 1 ≤ T.next := t1; omega) t2 (fun j o hj ho => t3 j o hj (hB _ _ ho)) t4
theorem code0_nil : DPure Tryd.prog 27 [.v .nilIface] (.v (.int .i64 0)) := by
  refine dpure_of_dwp mixed Tryd.func27 rfl (fun _ _ => by kernel_rfl) (rs := [.tmp 2]) rfl (by kernel_rfl) trivial (fun S hS => ?_)
  (simp (disch := first | decide | omega | (simp only [nx]; first | done | omega)) only [go_sem, bnil_eq0]; (repeat with_reducible refine aI ?_))
  refine ⟨?_, (by (repeat' first | assumption | exact St.Sub.refl _ | exact RowOk.sub (by assumption) (by assumption) | refine St.Sub.trans ?_ (RowOk.sub (by assumption) (by assumption)) | refine St.Sub.add ?_ ?_ _ | refine St.Sub.set ?_ ?_ ?_ _ | refine St.Sub.keep ?_ ?_ | refine St.WF.leave ?_ _ | refine St.WF.add ?_ _ | refine St.WF.set ?_ ?_ _ | refine St.WF.grow ?_ _ _ _ | refine St.WF.keep ?_ ?_ | (first | omega | (simp only [RowOk.lo, nx]; first | done | omega))))⟩
  rfl
theorem code0_er (n : Int) : DPure Tryd.prog 27 [erD n] (.v (.int .i64 n)) := by
  refine dpure_of_dwp mixed Tryd.func27 rfl (fun _ _ => by kernel_rfl) (rs := [.tmp 2]) rfl (by kernel_rfl) trivial (fun S hS => ?_)
  unfold erD
  (simp (disch := first | decide | omega | (simp only [nx]; first | done | omega)) only [go_sem]; (repeat with_reducible refine aI ?_))
  refine as0 (x0 := .v (.int .i64 0)) ?_ fun T t1 t2 t3 t4 => ?_
  · show (if S.next = S.next then _ else _) = _
    rw [if_pos rfl]
  (simp (disch := first | decide | omega | (simp only [nx]; first | done | omega)) only [go_sem, t4]; (repeat with_reducible refine aI ?_))
  have hsub : S.Sub T := ⟨by have : S.next + 1 ≤ T.next := t1; omega, fun j o ho => t3 j o (by have := hS.lt ho; omega) (by have := hS.lt ho; show (if j = S.next then _ else _) = _; rw [if_neg (by omega), ho])⟩
  refine ⟨?_, (by (repeat' first | assumption | exact St.Sub.refl _ | exact RowOk.sub (by assumption) (by assumption) | refine St.Sub.trans ?_ (RowOk.sub (by assumption) (by assumption)) | refine St.Sub.add ?_ ?_ _ | refine St.Sub.set ?_ ?_ ?_ _ | refine St.Sub.keep ?_ ?_ | refine St.WF.leave ?_ _ | refine St.WF.add ?_ _ | refine St.WF.set ?_ ?_ _ | refine St.WF.grow ?_ _ _ _ | refine St.WF.keep ?_ ?_ | (first | omega | (simp only [RowOk.lo, nx]; first | done | omega))))⟩
  rfl
end Go.Proofs.YtbcabejdchkpmaaDoor

namespace Go.Proofs.YtbcabejdchkpmaaDoor
open Go.RowKit
theorem code_errO (c : Nat) : DPure Tryd.prog 27 [errO c] (.v (.int .i64 ((c : Nat) : Int))) := by
  unfold errO
  by_cases h : c = 0
  · subst h; exact code0_nil
  · rw [if_neg h]; exact code0_er _
end Go.Proofs.YtbcabejdchkpmaaDoor

namespace Go.Proofs.YtbcabejdchkpmaaDoor
open Go.RowKit
set_option maxRecDepth 200000 in
set_option maxHeartbeats 8000000 in
theorem schRead_r (s : DSch) {S : St} {k : Nat} {L rest : List UInt8} {i : Nat} (hr : rightS 5 s = true) (ho : okS s) (hk : k < S.next) (hR : RAt k L i S) (hL : L.length ≤ 1099511627776) (hi : i ≤ L.length) (hb : L.drop i = bytesOfS s ++ rest) :
    DCalls Tryd.prog 63 [.loc k 0] S fun d T => d = encS s ∧ RAt k L (i + (bytesOfS s).length) T ∧ RFr k S T := by
  refine dcalls_inline mixed Tryd.func63 rfl (fun _ _ => by kernel_rfl) (rs := [.cell 2 53]) rfl (by kernel_rfl) (fun hS => ?_)
  (simp (disch := first | decide | omega | (simp only [nx]; first | done | omega)) only [go_sem]; (repeat with_reducible refine aI ?_))
  refine (sread_r 5 s hr ho (by show k < S.next + 1; omega) (hR.keep (add_keep hS _)) hL hi (by omega) hb).wf.mono ?_
  rintro _ T ⟨⟨rfl, h1, hF⟩, hT⟩
  have z := hF.box S.next _ _ (by omega) (add_eq (S := S))
  (simp (disch := first | decide | omega | (simp only [nx]; first | done | omega)) only [go_sem, z]; (repeat with_reducible refine aI ?_))
  refine ⟨h1.obk (set_ne (by omega)) rfl, ⟨by have := hF.next; exact Nat.le_trans (Nat.le_succ _) this, fun j o hj e => ?_⟩⟩
  have := hS.lt e
  exact (set_ne (by omega)).trans (hF.ob j o hj (add_keep hS _ j o e))
set_option maxRecDepth 200000 in
set_option maxHeartbeats 8000000 in
theorem decodeS_d (own : Own) (v : DSch) (ho : okS v) (hr : rightS 5 v = true) (h4 : (bytesOfS v).length ≤ 4096) : DPure Tryd.prog 29 [.sl own ((bytesOfS v).map bD)] (.tup [encS v, errO 0]) := by
  have hcl : (D.tup [encS v, errO 0]).closed := by
    have h1 := closed_encS v
    have h2 := errO_closed 0
    simp only [D.closed, D.all, allL] at h1 h2 ⊢
    exact ⟨h1, h2, trivial⟩
  refine dpure_of_dwp mixed Tryd.func29 rfl (fun _ _ => by kernel_rfl) (rs := [.cell 2 53, .tmp 3]) rfl (by kernel_rfl) hcl (fun S hS => ?_)
  have b1 : decide ((4096 : Int) < ((bytesOfS v).length : Int)) = false := by simp; omega
  (simp (disch := first | decide | omega | (simp only [nx]; first | done | omega)) only [go_sem, b1]; (repeat with_reducible refine aI ?_))
  refine (new_r (l := bytesOfS v) (by omega)).wf.mono ?_
  rintro _ T1 ⟨⟨k, rfl, hk1, hk2, hR, hob⟩, hT1⟩
  (simp (disch := first | decide | omega | (simp only [nx]; first | done | omega)) only [go_sem]; (repeat with_reducible refine aI ?_))
  refine (schRead_r (rest := []) (i := 0) v hr ho hk2 hR (by omega) (by omega) (by simp)).wf.mono ?_
  rintro _ T2 ⟨⟨rfl, hR2, hF2⟩, hT2⟩
  have hn2 := hF2.next
  have hk1' : S.next + 1 ≤ k := hk1
  have z2 := hF2.box S.next _ _ (by omega) (hob _ _ (add_eq (S := S)))
  (simp (disch := first | decide | omega | (simp only [nx]; first | done | omega)) only [go_sem]; (repeat with_reducible refine aI ?_))
  refine (end_r (hR2.obk ((set_ne (by omega)).trans (add_ne (by omega))) (by omega))).mono ?_
  rintro _ T3 ⟨rfl, he⟩
  rw [he]
  clear he
  (simp (disch := first | decide | omega | (simp only [nx]; first | done | omega)) only [go_sem, z2]; (repeat with_reducible refine aI ?_))
  refine ⟨?_, ⟨by show S.next ≤ T2.next + 1; omega, fun j ob e => ?_⟩⟩
  · simp only [D.frz, frzL, frz_encS, errO, if_true]
  · have := hS.lt e
    exact (set_ne (by omega)).trans ((set_ne (by omega)).trans ((add_ne (by omega)).trans (hF2.ob j ob (by omega) (hob _ _ (add_keep hS _ j ob e)))))
set_option maxRecDepth 200000 in
set_option maxHeartbeats 8000000 in
theorem schemaEncodes_d (v : DSch) (ho : okS v) : DPure Tryd.prog 5 [encS v] (.v (.bool true)) := by
  refine dpure_of_dwp mixed Tryd.func5 rfl (fun _ _ => by kernel_rfl) (rs := [.tmp 2]) rfl (by kernel_rfl) trivial (fun S hS => ?_)
  (simp (disch := first | decide | omega | (simp only [nx]; first | done | omega)) only [go_sem]; (repeat with_reducible refine aI ?_))
  refine DCalls.of_pure (greatS_d v ho) ?_
  cases g1 : decide (roomS 12 v 300 < 0) with
  | true =>
    (simp (disch := first | decide | omega | (simp only [nx]; first | done | omega)) only [go_sem]; (repeat with_reducible refine aI ?_))
    refine DCalls.of_pure awake09_d ?_
    (simp (disch := first | decide | omega | (simp only [nx]; first | done | omega)) only [go_sem]; (repeat with_reducible refine aI ?_))
    refine ⟨?_, (by (repeat' first | assumption | exact St.Sub.refl _ | exact RowOk.sub (by assumption) (by assumption) | refine St.Sub.trans ?_ (RowOk.sub (by assumption) (by assumption)) | refine St.Sub.add ?_ ?_ _ | refine St.Sub.set ?_ ?_ ?_ _ | refine St.Sub.keep ?_ ?_ | refine St.WF.leave ?_ _ | refine St.WF.add ?_ _ | refine St.WF.set ?_ ?_ _ | refine St.WF.grow ?_ _ _ _ | refine St.WF.keep ?_ ?_ | (first | omega | (simp only [RowOk.lo, nx]; first | done | omega))))⟩
    rfl
  | false =>
  have hw := (room_spec 12 v 300 (by have := of_decide_eq_false g1; omega)).1
  have n1 := of_decide_eq_false g1
  have hd := DSch.depth_weight v.depth v (Nat.le_refl _)
  (simp (disch := first | decide | omega | (simp only [nx]; first | done | omega)) only [go_sem]; (repeat with_reducible refine aI ?_))
  refine DCalls.of_pure (encodeS_d v ho (by omega)) ?_
  cases hr : rightS 5 v with
  | false =>
    rw [encResS, if_pos hr]
    (simp (disch := first | decide | omega | (simp only [nx]; first | done | omega)) only [go_sem]; (repeat with_reducible refine aI ?_))
    refine DCalls.of_pure (refSchRight_d v ho (by omega)) ?_
    rw [hr]
    (simp (disch := first | decide | omega | (simp only [nx]; first | done | omega)) only [go_sem]; (repeat with_reducible refine aI ?_))
    refine DCalls.of_pure (code_errO 1) ?_
    have b1 : (((1 : Nat) : Int) == 1) = true := rfl
    have b2 : (((0 : Nat) : Int) == 0) = true := rfl
    (simp (disch := first | decide | omega | (simp only [nx]; first | done | omega)) only [go_sem, b1, b2, List.length_nil]; (repeat with_reducible refine aI ?_))
    refine DCalls.of_pure awake09_d ?_
    (simp (disch := first | decide | omega | (simp only [nx]; first | done | omega)) only [go_sem]; (repeat with_reducible refine aI ?_))
    refine ⟨?_, (by (repeat' first | assumption | exact St.Sub.refl _ | exact RowOk.sub (by assumption) (by assumption) | refine St.Sub.trans ?_ (RowOk.sub (by assumption) (by assumption)) | refine St.Sub.add ?_ ?_ _ | refine St.Sub.set ?_ ?_ ?_ _ | refine St.Sub.keep ?_ ?_ | refine St.WF.leave ?_ _ | refine St.WF.add ?_ _ | refine St.WF.set ?_ ?_ _ | refine St.WF.grow ?_ _ _ _ | refine St.WF.keep ?_ ?_ | (first | omega | (simp only [RowOk.lo, nx]; first | done | omega))))⟩
    rfl
  | true =>
  rw [encResS, if_neg (by rw [hr]; simp)]
  have hbl := bytesS_len 5 v hr
  have hbl' : (bytesOfS v).length ≤ 100 * v.weight := hbl
  by_cases h4 : 4096 < (bytesOfS v).length
  · rw [if_pos h4]
    (simp (disch := first | decide | omega | (simp only [nx]; first | done | omega)) only [go_sem]; (repeat with_reducible refine aI ?_))
    refine DCalls.of_pure (refSchRight_d v ho (by omega)) ?_
    rw [hr]
    (simp (disch := first | decide | omega | (simp only [nx]; first | done | omega)) only [go_sem]; (repeat with_reducible refine aI ?_))
    refine DCalls.of_pure (refSchB_d 5 v hr ho (by omega)) ?_
    have b0 : decide ((4096 : Int) < ((bytesS 5 v).length : Int)) = true := decide_eq_true (by have : 4096 < (bytesS 5 v).length := h4; omega)
    (simp (disch := first | decide | omega | (simp only [nx]; first | done | omega)) only [go_sem, b0]; (repeat with_reducible refine aI ?_))
    refine DCalls.of_pure (code_errO 3) ?_
    have b1 : (((3 : Nat) : Int) == 3) = true := rfl
    have b2 : (((0 : Nat) : Int) == 0) = true := rfl
    (simp (disch := first | decide | omega | (simp only [nx]; first | done | omega)) only [go_sem, b1, b2, List.length_nil]; (repeat with_reducible refine aI ?_))
    refine DCalls.of_pure awake09_d ?_
    (simp (disch := first | decide | omega | (simp only [nx]; first | done | omega)) only [go_sem]; (repeat with_reducible refine aI ?_))
    refine ⟨?_, (by (repeat' first | assumption | exact St.Sub.refl _ | exact RowOk.sub (by assumption) (by assumption) | refine St.Sub.trans ?_ (RowOk.sub (by assumption) (by assumption)) | refine St.Sub.add ?_ ?_ _ | refine St.Sub.set ?_ ?_ ?_ _ | refine St.Sub.keep ?_ ?_ | refine St.WF.leave ?_ _ | refine St.WF.add ?_ _ | refine St.WF.set ?_ ?_ _ | refine St.WF.grow ?_ _ _ _ | refine St.WF.keep ?_ ?_ | (first | omega | (simp only [RowOk.lo, nx]; first | done | omega))))⟩
    rfl
  · rw [if_neg h4]
    (simp (disch := first | decide | omega | (simp only [nx]; first | done | omega)) only [go_sem]; (repeat with_reducible refine aI ?_))
    refine DCalls.of_pure (refSchRight_d v ho (by omega)) ?_
    rw [hr]
    (simp (disch := first | decide | omega | (simp only [nx]; first | done | omega)) only [go_sem]; (repeat with_reducible refine aI ?_))
    refine DCalls.of_pure (refSchB_d 5 v hr ho (by omega)) ?_
    have b0 : decide ((4096 : Int) < ((bytesS 5 v).length : Int)) = false := decide_eq_false (by have : ¬ 4096 < (bytesS 5 v).length := h4; omega)
    (simp (disch := first | decide | omega | (simp only [nx]; first | done | omega)) only [go_sem, b0]; (repeat with_reducible refine aI ?_))
    refine DCalls.of_pure (decodeS_d .no v ho hr (by omega)) ?_
    (simp (disch := first | decide | omega | (simp only [nx]; first | done | omega)) only [go_sem, errO, if_pos]; (repeat with_reducible refine aI ?_))
    refine DCalls.of_pure (bytesEq_d .no .no (bytesOfS v) (bytesOfS v) (by omega) (by omega)) ?_
    rw [decide_eq_true rfl]
    (simp (disch := first | decide | omega | (simp only [nx]; first | done | omega)) only [go_sem]; (repeat with_reducible refine aI ?_))
    refine DCalls.of_pure (refSameS_d v v ho ho) ?_
    rw [eqB_true rfl]
    (simp (disch := first | decide | omega | (simp only [nx]; first | done | omega)) only [go_sem]; (repeat with_reducible refine aI ?_))
    refine DCalls.of_pure awake09_d ?_
    (simp (disch := first | decide | omega | (simp only [nx]; first | done | omega)) only [go_sem]; (repeat with_reducible refine aI ?_))
    refine ⟨?_, (by (repeat' first | assumption | exact St.Sub.refl _ | exact RowOk.sub (by assumption) (by assumption) | refine St.Sub.trans ?_ (RowOk.sub (by assumption) (by assumption)) | refine St.Sub.add ?_ ?_ _ | refine St.Sub.set ?_ ?_ ?_ _ | refine St.Sub.keep ?_ ?_ | refine St.WF.leave ?_ _ | refine St.WF.add ?_ _ | refine St.WF.set ?_ ?_ _ | refine St.WF.grow ?_ _ _ _ | refine St.WF.keep ?_ ?_ | (first | omega | (simp only [RowOk.lo, nx]; first | done | omega))))⟩
    rfl
end Go.Proofs.YtbcabejdchkpmaaDoor

namespace Go.Proofs.YtbcabejdchkpmaaDoor
open Go.ChangeShapes Go.WideShapes Go.ChangeAt Go.RowKit
set_option maxRecDepth 100000 in
theorem schemaEncodes_lifted (os : Os) (started : os.Started) (H : Type) (enc : TypeId × Value → H) :
    ReturnsInHanded {} Tryd.checked os 5 .any (fun w args => (Rows.schemaEncodesSpec.pre enc Tryd.prog Tryd.f5 [] false w args ∧ laidMetH Tryd.prog doorLaid w) ∧ sizedMet enc Tryd.prog Tryd.f5 (OpenSpec.ofChange Rows.schemaEncodesSpec) false w args)
      (Rows.schemaEncodesSpec.post enc Tryd.prog Tryd.f5 false true false false) := by
  refine returnsInHanded_of_change_and (C := Tryd.checked) (X := fun w _ => laidMetH Tryd.prog doorLaid w) (fun _ _ _ hh h => h.of_heap hh) door_own started (by kernel_rfl) Tryd.func5
    (ChangeSpec.witness_at (enc := enc) (C := Tryd.checked) (os := os) (X := fun w _ => laidMetH Tryd.prog doorLaid w) false (laidWorld os) #[.agg #[.int .i64 0, .slice none 0 0, .slice none 0 0]] 8 rfl (by kernel_rfl) (by kernel_rfl) (by kernel_rfl) (by kernel_rfl) (by kernel_rfl) (laidWorld_met os _)) ?_
  intro W base args ds gs before hval0 hW hcnd hsz0 hL _
  have hG := glob_of_laid hL
  have hval : ∀ (j : Nat) t v, Tryd.f5.params[j]? = some t → args[j]? = some v → Value.okWide Tryd.prog W .any base t v := hval0
  have hsz : (DataW.weightsEach Tryd.prog (Tryd.f5.params.toList ++ Rows.schemaEncodesSpec.plain.varTypes Tryd.prog) (ds ++ gs)).all (· ≤ reachBytes) = true := hsz0
  have hW' := hW
  obtain ⟨p, q, hA0, hV, rfl, hfz, hnd⟩ := hW
  have hA : DataW.TrodAll enc Tryd.prog W 0 (fun _ => true) true Tryd.f5.params.toList args.toList ds p := hA0
  obtain ⟨rfl, rfl⟩ := trodVars_none hV
  rw [Tryd.params5] at hA hval hsz
  have hA1 := hA
  obtain ⟨v0, vs0, d0, ds0, p0, q0, hargs, rfl, rfl, h0, r0⟩ := trodAll_cons hA
  obtain ⟨rfl, rfl, rfl⟩ := trodAll_nil r0
  obtain rfl : args = #[v0] := by cases args; simp_all
  have z0 : Sized Tryd.prog 53 d0 := sized_of_each (j := 0) hsz rfl rfl
  have k0 : Value.okWide Tryd.prog W .any base 53 v0 := hval 0 _ _ rfl rfl
  clear hA0 hval0 hsz hsz0 hval
  have key : Calls Tryd.prog 5 #[v0] W (Gives (.bool true) W) := by
    obtain ⟨s, cs, rfl, hs⟩ := open_schema h0 z0 k0
    exact door_gives (vs := [.agg cs.toArray]) (schemaEncodes_d s hs.ok) (by simp only [RepL]; exact ⟨_, _, rfl, rep_sch (fun b i _ => fix_nilD b i) hs, rfl⟩) (by intro _ _; kernel_rfl) hG
  refine key.mono fun e W' ⟨he, bel⟩ => ?_
  subst he
  exact ⟨_, rfl, _, _, _, [], _, [], hW', trodAll_mk1 (shut_bool Tryd.underlying4 _), trodAll_below door_laidOut bel (by kernel_rfl) hA1, rfl, bel.frame _, fun h => by cases h⟩

theorem schemaEncodes_row : Rows.SchemaEncodesSaid :=
  OpenClaim.holds_of_wide 5 Tryd.f5 rfl rfl rfl rfl rfl rfl rfl ⟨rfl, rfl, rfl, rfl, rfl⟩ rfl rfl rfl rfl rfl (by kernel_rfl) Tryd.func5 (by kernel_rfl)
    (of_decide_eq_true (by kernel_rfl)) (by unfold Func.isWrapper; first | (rw [if_pos (by decide +kernel)]; kernel_rfl) | (rw [if_neg (by decide +kernel)]; exact ⟨rfl, rfl⟩))
    (fun os started H enc _ => schemaEncodes_lifted os started H enc)
theorem schemaEncodes_holds : Rows.SchemaEncodesCardSaid :=
  Claim7.holds_tied_plain_at .later [] [.handle] true Rows.schemaEncodesCard.stood.harness true
    schemaEncodes_row (fun _ h => by cases h) (by kernel_rfl) (fun _ h => by cases h) schemaEncodes_row_tie rfl ⟨rfl, rfl⟩ (by kernel_rfl) rfl
    (fun f fn hf hfn => by
      obtain rfl : f = 5 := Option.some.inj ((show Tryd.prog.funcNamed "dioptre/dioptrelaw09.SchemaEncodes" = some 5 by kernel_rfl).symm.trans hf) |>.symm
      obtain rfl : fn = Tryd.f5 := (Option.some.inj (Tryd.func5.symm.trans hfn)).symm
      exact ⟨by kernel_rfl, fun j t ht => by
        rw [Tryd.params5] at ht
        have ht' := List.mem_of_getElem? (Array.getElem?_toList ▸ ht)
        simp only [List.mem_cons, List.not_mem_nil, or_false] at ht'
        rcases ht' with rfl <;> exact (show Tryd.prog.wantsStandIn _ = false by kernel_rfl)⟩)
    (by kernel_rfl)
#print axioms schemaEncodes_holds
end Go.Proofs.YtbcabejdchkpmaaDoor
