/- RegistryNone answers true for any two names and any lens, and leaves its arguments as they were. Conditions: none but the statement's own. -/
import Derived.Test.YtogbklnkpjjkoaaGreatDoorR9
import Derived.LaidEql
import Derived.Stop.Asserts
import Derived.RowKitTokens
import Derived.Test.YtogbklnkpjjkoaaGreatDoorCards
import Derived.Test.YtogbklnkpjjkoaaGreatDoorTie
import Derived.SevenTiedAt
import Derived.RowKit
set_option linter.unusedVariables false
set_option linter.unusedSimpArgs false
namespace Go.Proofs.YtogbklnkpjjkoaaGreatDoor
open Go.RowKit
def befN (n : Nat) (e : List (Nat × Nat)) : List Nat := e.foldl (fun l p => l.set p.2 p.1) (List.replicate n 0)
theorem befN_snoc (n : Nat) (e : List (Nat × Nat)) (p : Nat × Nat) : befN n (e ++ [p]) = (befN n e).set p.2 p.1 := by simp [befN]
theorem befN_len (n : Nat) (e : List (Nat × Nat)) : (befN n e).length = n := by
  have : ∀ (e : List (Nat × Nat)) (l : List Nat), (e.foldl (fun l p => l.set p.2 p.1) l).length = l.length := fun e => by
    induction e with
    | nil => intro l; rfl
    | cons p e ih => intro l; rw [List.foldl_cons, ih, List.length_set]
  rw [befN, this, List.length_replicate]
theorem map_set1 (l : List Nat) {b a : Nat} (h : b < l.length) : (l.map nD).take b ++ [nD a] ++ (l.map nD).drop (b + 1) = (l.set b a).map nD := by
  rw [List.set_eq_take_append_cons_drop, if_pos h, List.map_append, List.map_cons, List.map_take, List.map_drop]
  simp
def PathI (kb kc n : Nat) (G : Nat → Prop) (e : List (Nat × Nat)) (S : St) : Prop :=
  S.ob kc = some (.box 78 [.win kb 0 n n]) ∧ S.ob kb = some (.box 3 ((befN n e).map nD)) ∧ G kb ∧ G kc ∧ ∀ q, G q → q < S.next
theorem dapp_rowF {P : Program} {S : St} {t e ty : TypeId} {own own2 : Own} {es : List D} {o : D} {K : D → St → Prop} (he : elT P t = some e) (hz : zeroT P e = true) (hy : bytesOf P e ≤ 1000) (h : own = .full ∨ ∃ g, own = .row g ∧ S.ob g = some (.row e es.length)) (hl : es.length ≤ 1000000) (hw : ∀ d ∈ es, d.width = szOf P e) (ho : o.width = szOf P e)
    (k : K (.sl (.row S.next) (es ++ [o])) (S.grow own e (es.length + 1))) : dapp P S t t ty (.sl own es) (.sl own2 [o]) K := by
  refine dapp_row ?_
  simp only [dappend, he, hz, true_and, Option.isSome_some, List.length_cons, List.length_nil]
  refine ⟨hw, fun d hd => by obtain rfl := List.mem_singleton.1 hd; exact ho, ?_, by omega, ?_, k⟩
  · rcases h with rfl | ⟨g, rfl, h⟩
    · trivial
    · exact h
  · exact Nat.le_trans (Nat.mul_le_mul_left _ hy) (by omega)
def nmAt (vs : List DVer) (i : Nat) : H32 := ((vs[i]?).map (·.name)).getD ⟨List.replicate 32 0, rfl⟩
def pthN (vs : List DVer) (f : Nat → Nat) (m : Nat) : List H32 := (List.range (m + 1)).map fun i => nmAt vs (f i)
theorem pthN_succ (vs : List DVer) (f : Nat → Nat) (m : Nat) : pthN vs f (m + 1) = pthN vs f m ++ [nmAt vs (f (m + 1))] := by
  unfold pthN
  rw [List.range_succ (n := m + 1), List.map_append]
  rfl
theorem pthN_len (vs : List DVer) (f : Nat → Nat) (m : Nat) : (pthN vs f m).length = m + 1 := by simp [pthN]
theorem pthN_zero (vs : List DVer) (f : Nat → Nat) : pthN vs f 0 = [nmAt vs (f 0)] := rfl
theorem nmAt_lt {vs : List DVer} {i : Nat} (h : i < vs.length) : nmAt vs i = vs[i].name := by simp [nmAt, h]
section
set_option maxRecDepth 200000
set_option maxHeartbeats 8000000
theorem reachP {kb kc k : Nat} {F : Nat → Prop} {vs : List DVer} (hne : kb ≠ kc) : ReachI 37 [.loc kc 0] k F vs (PathI kb kc vs.length) := by
  refine ⟨fun G e S a b hel hS ha hb hr hI hFG => ?_, fun G e S T h hs hn => ⟨hs _ _ h.2.2.2.1 h.1, hs _ _ h.2.2.1 h.2.1, h.2.2.1, h.2.2.2.1, fun q hq => Nat.lt_of_lt_of_le (h.2.2.2.2 q hq) hn⟩, fun G e S h => h.2.2.2.2⟩
  obtain ⟨h1, h2, h3, h4, h5⟩ := hI
  have hkb := hS.lt h2
  refine dcalls_inline mixed Tryz.func37 rfl (fun _ _ => by kernel_rfl) (rs := []) rfl (by kernel_rfl) (fun hS => ?_)
  have hl := befN_len vs.length e
  have hll : ((befN vs.length e).map nD).length = vs.length := by rw [List.length_map, hl]
  have hset := map_set1 (befN vs.length e) (a := a) (b := b) (by rw [hl]; exact hb)
  (simp (disch := first | decide | omega | (simp only [nx]; first | done | omega)) only [go_sem, h1, h2, nD, iD]; (repeat with_reducible refine aI ?_))
  rw [Nat.mul_one, show (List.map nD (befN vs.length e)).take b ++ [D.v (Value.int .i64 (a : Int))] ++ (List.map nD (befN vs.length e)).drop (b + 1) = ((befN vs.length e).set b a).map nD from hset, ← befN_snoc vs.length e (a, b)]
  refine ⟨G, ⟨?_, by simp [St.set], h3, h4, h5⟩, fun q h => .inl h, fun q o hq e => ?_, Nat.le_refl _⟩
  · simp only [St.set]; rw [if_neg (fun e => hne e.symm)]; exact h1
  · simp only [St.set]; rw [if_neg (fun e2 => hq (by rw [e2]; exact h3))]; exact e
theorem path_at {S : St} {k : Nat} {F : Nat → Prop} {vs : List DVer} (hr : RegAt k F vs S) (hl : vs.length ≤ 1000000) {h1 h2 : H32} {a b : Nat} (ha : findR vs h1 = some a) (hb : findR vs h2 = some b) (m : Nat) (f : Nat → Nat) (hm : m ≤ 1000000) (f0 : f 0 = a) (fm : f m = b) (hf : ∀ i, i < m → f i ≠ b ∧ f i < vs.length ∧ (befN vs.length (outW vs b)).getD (f i) 0 = f (i + 1)) :
    DCalls Tryz.prog 12 [.loc k 0, encH h1, encH h2] S (fun d T => ∃ own, d = .tup [.sl own ((pthN vs f m).map encH), .v (.bool true)] ∧ S.Sub T) := by
  obtain ⟨hal, han⟩ := findR_some ha
  obtain ⟨hbl, hbn⟩ := findR_some hb
  refine dcalls_inline mixed Tryz.func12 rfl (fun _ _ => by kernel_rfl) (rs := [.tmp 6, .tmp 7]) rfl (by kernel_rfl) (fun hS => ?_)
  have l1 := h1.2
  have l2 := h2.2
  (simp (disch := first | decide | omega | (simp only [nx]; first | done | omega)) only [go_sem, l1, l2]; (repeat with_reducible refine aI ?_))
  generalize hX : St.add (St.add S _) _ = S1
  have hs1 : S.Sub S1 := by rw [← hX]; exact ((St.Sub.refl S).add hS _).add hS _
  have hW1 : S1.WF := by rw [← hX]; exact (hS.add _).add _
  have hn1 : S1.next = S.next + 2 := by rw [← hX]; rfl
  have b1 : S1.ob S.next = some (.box 39 (h1.1.map bD)) := by rw [← hX]; (first | (simp (disch := first | decide | omega | (simp only [nx]; first | done | omega)) only [go_sem]; first | done | rfl) | rfl)
  have b2 : S1.ob (S.next + 1) = some (.box 39 (h2.1.map bD)) := by rw [← hX]; (first | (simp (disch := first | decide | omega | (simp only [nx]; first | done | omega)) only [go_sem]; first | done | rfl) | rfl)
  clear hX
  have hr1 := hr.sub hs1
  refine go_at (find_at hr1 h1) ?_
  rw [ha]
  (simp (disch := first | decide | omega | (simp only [nx]; first | done | omega)) only [go_sem, b1, b2, l1, l2]; (repeat with_reducible refine aI ?_))
  refine go_at (find_at hr1 h2) ?_
  rw [hb]
  obtain ⟨ow, bb, q, c, es, zs, o, g1, g2, g3, g4, g5, g6⟩ := hr1.open (by omega)
  (simp (disch := first | decide | omega | (simp only [nx]; first | done | omega)) only [go_sem, b1, b2, l1, l2, g1]; (repeat with_reducible refine aI ?_))
  have hzb : (List.replicate vs.length (zeroD Tryz.prog 3)).flatten = (befN vs.length []).map nD := by
    have e : zeroD Tryz.prog 3 = [nD 0] := by kernel_rfl
    rw [e]
    show _ = (List.replicate vs.length 0).map nD
    rw [List.map_replicate]
    generalize vs.length = n
    induction n with
    | zero => rfl
    | succ n ih => rw [List.replicate_succ, List.flatten_cons, ih, List.replicate_succ]; rfl
  refine dmake_win (n := vs.length) elIs (by kernel_rfl) (by kernel_rfl) (by omega) (by rw [byIs]; omega) ?_
  rw [hzb]
  (simp (disch := first | decide | omega | (simp only [nx]; first | done | omega)) only [go_sem, b1, b2, l1, l2]; (repeat with_reducible refine aI ?_))
  generalize hX : St.set (St.add (St.add S1 _) _) _ _ = S2
  have hs2 : S1.Sub S2 := by rw [← hX]; exact (((St.Sub.refl S1).add hW1 _).add hW1 _).set hW1 (Nat.le_succ _) _
  have hW2 : S2.WF := by rw [← hX]; exact (by (repeat' first | assumption | refine St.WF.leave ?_ _ | refine St.WF.add ?_ _ | refine St.WF.set ?_ ?_ _ | refine St.WF.grow ?_ _ _ _ | refine St.WF.keep ?_ ?_ | (first | omega | (simp only [RowOk.lo, nx]; first | done | omega))))
  have hn2 : S2.next = S1.next + 2 := by rw [← hX]; rfl
  have c1 : S2.ob (S1.next + 1) = some (.box 78 [.win S1.next 0 vs.length vs.length]) := by rw [← hX]; (first | (simp (disch := first | decide | omega | (simp only [nx]; first | done | omega)) only [go_sem]; first | done | rfl) | rfl)
  have c2 : S2.ob S1.next = some (.box 3 ((befN vs.length []).map nD)) := by rw [← hX]; (first | (simp (disch := first | decide | omega | (simp only [nx]; first | done | omega)) only [go_sem]; first | done | rfl) | rfl)
  clear hX
  have hr2 := hr1.sub hs2
  have hsS := hs1.trans hs2
  refine DCalls.mono (DCalls.wf (walk_at hr2 hbl hl (reachP (k := k) (F := F) (kb := S1.next) (kc := S1.next + 1) (by omega)) (G0 := fun q => q = S1.next ∨ q = S1.next + 1) ⟨c1, c2, .inl rfl, .inr rfl, fun q hq => by rcases hq with rfl | rfl <;> omega⟩ (fun q hq h => by have := hr.lt q hq; have := hs1.next; rcases h with rfl | rfl <;> omega))) ?_
  rintro d T ⟨⟨rfl, G', ⟨e1, e2, e3, e4, e5⟩, hG', hfr⟩, hT⟩
  have hsT : S.Sub T := ⟨by have := hfr.next; have := hsS.next; omega, fun q o e => hfr.ob _ _ (by have := hS.lt e; omega) (hsS.ob _ _ e)⟩
  have b1T := hfr.ob _ _ (by omega) (hs2.ob _ _ b1)
  have hrT := hr.sub hsT
  have hnT := hfr.next
  (simp (disch := first | decide | omega | (simp only [nx]; first | done | omega)) only [go_sem, b1T, l1]; (repeat with_reducible refine aI ?_))
  have hnm0 : encH (nmAt vs (f 0)) = encH h1 := by rw [f0, nmAt_lt hal, han]
  refine dloop_up (fun t => List.contains [8, 13, 44, 45, 46, 47, 48, 49, 50, 51, 52, 53, 54, 55, 56, 57, 58, 59, 60] t) (by kernel_rfl) hT m (fun i q U => i ≤ m ∧ q 8 = nD (f i) ∧ T.Sub U ∧ ∃ own, q 13 = .sl own ((pthN vs f i).map encH) ∧ (own = .full ∨ ∃ g, own = .row g ∧ T.next ≤ g ∧ U.ob g = some (.row 39 (i + 1))))
    ⟨Nat.zero_le _, by (first | (simp (disch := first | decide | omega | (simp only [nx]; first | done | omega)) only [go_sem, f0, nD, iD]; first | done | rfl) | rfl), St.Sub.refl _, .full, by rw [pthN_zero, List.map_cons, List.map_nil, hnm0]; (first | (simp (disch := first | decide | omega | (simp only [nx]; first | done | omega)) only [go_sem]; first | done | rfl) | rfl), .inl rfl⟩ ?_
  rintro i q U hU hg ⟨le, q8, hsU, own, q13, hrow⟩
  (have q0 := hg 0 rfl; have q6 := hg 6 rfl; have q7 := hg 7 rfl; have q10 := hg 10 rfl; have q12 := hg 12 rfl; simp (disch := first | decide | omega | (simp only [nx]; first | done | omega)) only [go_sem, nD, iD] at q0 q6 q7 q10 q12; clear hg)
  rw [Option.getD_some] at q10
  have hrU := hrT.sub hsU
  obtain ⟨owU, bbU, qU, cU, esU, zsU, oU, u1, u2, u3, u4, u5, u6⟩ := hrU.open (by omega)
  have c1U := hsU.ob _ _ e1
  have c2U := hsU.ob _ _ e2
  have hll : ((befN vs.length (outW vs b)).map nD).length = vs.length := by rw [List.length_map, befN_len]
  by_cases hlt : i < m
  · obtain ⟨k1, k2, k3⟩ := hf i hlt
    have bb1 : ((f i : Int) != (b : Int)) = true := by
      rw [bne_iff_ne]; omega
    have hget : ((befN vs.length (outW vs b)).map nD).getD (f i) undefD = nD (f (i + 1)) := by
      have h9 : f i < (befN vs.length (outW vs b)).length := by rw [befN_len]; exact k2
      rw [← k3]
      simp [List.getD, h9]
    have hfi1 : f (i + 1) < vs.length := by
      by_cases e : i + 1 = m
      · rw [e, fm]; exact hbl
      · exact (hf (i + 1) (by omega)).2.1
    have hgn : ((vs.map (·.name)).map encH).getD (f (i + 1)) undefD = encH (nmAt vs (f (i + 1))) := by
      rw [nmAt_lt hfi1]
      simp [List.getD, hfi1]
    have hnl : ((vs.map (·.name)).map encH).length = vs.length := by simp
    (simp (disch := first | decide | omega | (simp only [nx]; first | done | omega)) only [go_sem, q0, q8, q10, q12, q13, nD, iD, bb1, c1U, c2U, hget, u1, hgn, hnl, Nat.mul_one, Nat.zero_add]; (repeat with_reducible refine aI ?_))
    have ln := (nmAt vs (f (i + 1))).2
    refine ⟨by rw [befN_len]; exact k2, ⟨by omega, ln⟩, by omega, ln, ?_⟩
    have hpl : ((pthN vs f i).map encH).length = i + 1 := by rw [List.length_map, pthN_len]
    refine dapp_rowF elHs zeHs (by rw [byHs]; omega) (hrow.imp id fun ⟨g, e1, _, e3⟩ => ⟨g, e1, by rw [hpl]; exact e3⟩) (by rw [hpl]; omega) (fun d hd => by obtain ⟨x, _, rfl⟩ := List.mem_map.1 hd; rw [szHs]; exact width_encH x) (by rw [szHs]; exact width_encH _) ?_
    rw [hpl]
    have hown : ∀ g, own = .row g → T.next ≤ g := fun g e => by
      rcases hrow with e1 | ⟨g', e1, e2, e3⟩
      · rw [e1] at e; cases e
      · rw [e1] at e; injection e with e; subst e; exact e2
    have hsG : T.Sub (U.grow own 39 (i + 1 + 1)) := ⟨by rw [grow_next]; have := hsU.next; omega, fun j' o' e => growR_keep hU (hsU.ob _ _ e) fun g eg ej => by
      have := hown g eg
      have := hT.lt e
      omega⟩
    have hnew : (U.grow own 39 (i + 1 + 1)).ob U.next = some (.row 39 (i + 1 + 1)) := growR_new
    (simp (disch := first | decide | omega | (simp only [nx]; first | done | omega)) only [go_sem, q0, q8, q10, q12, q13]; (repeat with_reducible refine aI ?_))
    refine ⟨by omega, _, fun _ _ h => h, by omega, by (first | (simp (disch := first | decide | omega | (simp only [nx]; first | done | omega)) only [go_sem, nD, iD]; first | done | rfl) | rfl), hsG, .row U.next, ?_, .inr ⟨U.next, rfl, hsU.next, hnew⟩⟩
    rw [pthN_succ, List.map_append]
    rfl
  · obtain rfl : i = m := by omega
    have bb1 : ((f i : Int) != (b : Int)) = false := by
      rw [bne_eq_false_iff_eq]; omega
    (simp (disch := first | decide | omega | (simp only [nx]; first | done | omega)) only [go_sem, q0, q8, q10, q12, q13, nD, iD, bb1]; (repeat with_reducible refine aI ?_))
    exact ⟨own, rfl, hsT.trans hsU⟩
theorem path_no {S : St} {k : Nat} {F : Nat → Prop} {vs : List DVer} (hr : RegAt k F vs S) {h1 h2 : H32} (hn : findR vs h1 = none ∨ findR vs h2 = none) :
    DCalls Tryz.prog 12 [.loc k 0, encH h1, encH h2] S (fun d T => d = .tup [.sl .full [], .v (.bool false)] ∧ S.Sub T) := by
  refine dcalls_inline mixed Tryz.func12 rfl (fun _ _ => by kernel_rfl) (rs := [.tmp 6, .tmp 7]) rfl (by kernel_rfl) (fun hS => ?_)
  have l1 := h1.2
  have l2 := h2.2
  (simp (disch := first | decide | omega | (simp only [nx]; first | done | omega)) only [go_sem, l1, l2]; (repeat with_reducible refine aI ?_))
  generalize hX : St.add (St.add S _) _ = S1
  have hs1 : S.Sub S1 := by rw [← hX]; exact ((St.Sub.refl S).add hS _).add hS _
  have b1 : S1.ob S.next = some (.box 39 (h1.1.map bD)) := by rw [← hX]; (first | (simp (disch := first | decide | omega | (simp only [nx]; first | done | omega)) only [go_sem]; first | done | rfl) | rfl)
  have b2 : S1.ob (S.next + 1) = some (.box 39 (h2.1.map bD)) := by rw [← hX]; (first | (simp (disch := first | decide | omega | (simp only [nx]; first | done | omega)) only [go_sem]; first | done | rfl) | rfl)
  clear hX
  have hr1 := hr.sub hs1
  refine go_at (find_at hr1 h1) ?_
  (simp (disch := first | decide | omega | (simp only [nx]; first | done | omega)) only [go_sem, b1, b2, l1, l2]; (repeat with_reducible refine aI ?_))
  refine go_at (find_at hr1 h2) ?_
  cases e1 : findR vs h1 with
  | none =>
    have c1 : (none : Option Nat).isSome = false := rfl
    (simp (disch := first | decide | omega | (simp only [nx]; first | done | omega)) only [go_sem, b1, b2, l1, l2, c1]; (repeat with_reducible refine aI ?_))
    exact hs1
  | some a =>
    have e2 : findR vs h2 = none := by
      rcases hn with e | e
      · rw [e1] at e; cases e
      · exact e
    rw [e2]
    have c1 : (none : Option Nat).isSome = false := rfl
    have c2 : (some a).isSome = true := rfl
    (simp (disch := first | decide | omega | (simp only [nx]; first | done | omega)) only [go_sem, b1, b2, l1, l2, c1, c2]; (repeat with_reducible refine aI ?_))
    exact hs1
theorem depth_at {S : St} {k : Nat} {F : Nat → Prop} {vs : List DVer} (hr : RegAt k F vs S) (hl : vs.length ≤ 1000000) {h : H32} {a : Nat} (ha : findR vs h = some a) (m : Nat) (f : Nat → Nat) (hm : m ≤ 1000000) (f0 : f 0 = a) (fm : f m < vs.length ∧ upOf vs (f m) < 0) (hf : ∀ i, i < m → f i < vs.length ∧ upOf vs (f i) = (f (i + 1) : Int)) :
    DCalls Tryz.prog 25 [.loc k 0, encH h] S (fun d T => d = .v (.int .i64 ((m : Nat) : Int)) ∧ S.Sub T) := by
  obtain ⟨hal, han⟩ := findR_some ha
  refine dcalls_inline mixed Tryz.func25 rfl (fun _ _ => by kernel_rfl) (rs := [.tmp 4]) rfl (by kernel_rfl) (fun hS => ?_)
  have l1 := h.2
  (simp (disch := first | decide | omega | (simp only [nx]; first | done | omega)) only [go_sem, l1]; (repeat with_reducible refine aI ?_))
  generalize hX : St.add S _ = S1
  have hs1 : S.Sub S1 := by rw [← hX]; exact (St.Sub.refl S).add hS _
  have hW1 : S1.WF := by rw [← hX]; exact hS.add _
  clear hX
  have hr1 := hr.sub hs1
  refine go_at (find_at hr1 h) ?_
  rw [ha]
  (simp (disch := first | decide | omega | (simp only [nx]; first | done | omega)) only [go_sem]; (repeat with_reducible refine aI ?_))
  obtain ⟨ow, bb, q, c, es, zs, o, g1, g2, g3, g4, g5, g6⟩ := hr1.open (by omega)
  refine dloop_up (fun t => List.contains [5, 7, 16, 17, 18, 19, 20, 21, 22, 23, 24, 25, 26, 27, 28, 29, 30, 31, 32, 33, 34] t) (by kernel_rfl) hW1 m (fun i q U => i ≤ m ∧ q 5 = nD (f i) ∧ q 7 = .v (.int .i64 ((i : Nat) : Int)) ∧ S1.Sub U)
    ⟨Nat.zero_le _, by (first | (simp (disch := first | decide | omega | (simp only [nx]; first | done | omega)) only [go_sem, f0, nD, iD]; first | done | rfl) | rfl), by (first | (simp (disch := first | decide | omega | (simp only [nx]; first | done | omega)) only [go_sem]; first | done | rfl) | rfl), St.Sub.refl _⟩ ?_
  rintro i qq U hU hg ⟨le, q5, q7, hsU⟩
  (have q0 := hg 0 rfl; have q4 := hg 4 rfl; simp (disch := first | decide | omega | (simp only [nx]; first | done | omega)) only [go_sem, nD, iD] at q0 q4; clear hg)
  have u1 := hsU.ob _ _ g1
  have u2 := hsU.ob _ _ g2
  have hfi : f i < vs.length := by
    by_cases e : i < m
    · exact (hf i e).1
    · rw [show i = m by omega]; exact fm.1
  have hget := flatR_get (j := 0) g5 (g6 (f i) hfi) (by omega) zs
  rw [show (verD vs[f i] (o (f i)) (besL vs (f i))).cells.getD 0 undefD = .v (.int .i64 (upOf vs (f i))) by rw [upOf_lt hfi]; rfl, Nat.add_zero] at hget
  have hfit := flatR_fit g5 (g6 (f i) hfi) zs
  by_cases hlt : i < m
  · have hfi1 := (hf i hlt).2
    have b1 : decide (0 ≤ upOf vs (f i)) = true := decide_eq_true (by omega)
    have w1 : IntKind.i64.wrap ((i : Int) + 1) = ((i + 1 : Nat) : Int) := IntWalk.i64_in _ ⟨by omega, by omega⟩
    (simp (disch := first | decide | omega | (simp only [nx]; first | done | omega)) only [go_sem, q0, q5, q7, nD, iD, u1, u2, hget, b1, w1]; (repeat with_reducible refine aI ?_))
    exact ⟨hlt, _, fun _ _ h => h, by omega, by (first | (simp (disch := first | decide | omega | (simp only [nx]; first | done | omega)) only [go_sem, hfi1]; first | done | rfl) | rfl), by (first | (simp (disch := first | decide | omega | (simp only [nx]; first | done | omega)) only [go_sem, w1]; first | done | rfl) | rfl), hsU⟩
  · obtain rfl : i = m := by omega
    have b1 : decide (0 ≤ upOf vs (f i)) = false := decide_eq_false (by omega)
    (simp (disch := first | decide | omega | (simp only [nx]; first | done | omega)) only [go_sem, q0, q5, q7, nD, iD, u1, u2, hget, b1]; (repeat with_reducible refine aI ?_))
    exact hs1.trans hsU
end
end Go.Proofs.YtogbklnkpjjkoaaGreatDoor

namespace Go.Proofs.YtogbklnkpjjkoaaGreatDoor
open Go.RowKit
def edCs (vs : List DVer) (p : Nat × Nat) : List D := (nmAt vs p.1).1.map bD ++ ((nmAt vs p.2).1.map bD ++ [.v (.bool (decide (upOf vs p.2 = (p.1 : Int))))])
def edD (vs : List DVer) (p : Nat × Nat) : D := .agg (edCs vs p)
theorem edCs_len (vs : List DVer) (p : Nat × Nat) : (edCs vs p).length = 65 := by
  have h1 := len_encH (nmAt vs p.1)
  have h2 := len_encH (nmAt vs p.2)
  simp only [edCs, List.length_append, h1, h2, List.length_singleton]
theorem width_edD (vs : List DVer) (p : Nat × Nat) : (edD vs p).width = 65 := edCs_len vs p
theorem cl_edD (vs : List DVer) (p : Nat × Nat) : (edD vs p).cells.length = 65 := edCs_len vs p
theorem okCell_edD (vs : List DVer) (p : Nat × Nat) : (edD vs p).okCell = true := rfl
theorem elEd : elT Tryz.prog 52 = some 59 := by kernel_rfl
theorem szEd : szOf Tryz.prog 59 = 65 := by kernel_rfl
theorem byEd : bytesOf Tryz.prog 59 ≤ 1000 := by decide +kernel
theorem zeEd : zeroT Tryz.prog 59 = true := by kernel_rfl
def OutI (kc kr k : Nat) (vs : List DVer) (G : Nat → Prop) (e : List (Nat × Nat)) (S : St) : Prop :=
  (∃ own, S.ob kc = some (.box 52 [.sl own (e.map (edD vs))]) ∧ (own = .full ∨ ∃ g, G g ∧ own = .row g ∧ S.ob g = some (.row 59 e.length))) ∧ S.ob kr = some (.box 30 [.loc k 0]) ∧ G kc ∧ G kr ∧ ∀ q, G q → q < S.next
theorem ed1 (a b : H32) : (a.1.map bD ++ [D.v (.int .u8 0), D.v (.int .u8 0), D.v (.int .u8 0), D.v (.int .u8 0), D.v (.int .u8 0), D.v (.int .u8 0), D.v (.int .u8 0), D.v (.int .u8 0), D.v (.int .u8 0), D.v (.int .u8 0), D.v (.int .u8 0), D.v (.int .u8 0), D.v (.int .u8 0), D.v (.int .u8 0), D.v (.int .u8 0), D.v (.int .u8 0), D.v (.int .u8 0), D.v (.int .u8 0), D.v (.int .u8 0), D.v (.int .u8 0), D.v (.int .u8 0), D.v (.int .u8 0), D.v (.int .u8 0), D.v (.int .u8 0), D.v (.int .u8 0), D.v (.int .u8 0), D.v (.int .u8 0), D.v (.int .u8 0), D.v (.int .u8 0), D.v (.int .u8 0), D.v (.int .u8 0), D.v (.int .u8 0), D.v (Value.bool false)]).take 32 ++ b.1.map bD ++ (a.1.map bD ++ [D.v (.int .u8 0), D.v (.int .u8 0), D.v (.int .u8 0), D.v (.int .u8 0), D.v (.int .u8 0), D.v (.int .u8 0), D.v (.int .u8 0), D.v (.int .u8 0), D.v (.int .u8 0), D.v (.int .u8 0), D.v (.int .u8 0), D.v (.int .u8 0), D.v (.int .u8 0), D.v (.int .u8 0), D.v (.int .u8 0), D.v (.int .u8 0), D.v (.int .u8 0), D.v (.int .u8 0), D.v (.int .u8 0), D.v (.int .u8 0), D.v (.int .u8 0), D.v (.int .u8 0), D.v (.int .u8 0), D.v (.int .u8 0), D.v (.int .u8 0), D.v (.int .u8 0), D.v (.int .u8 0), D.v (.int .u8 0), D.v (.int .u8 0), D.v (.int .u8 0), D.v (.int .u8 0), D.v (.int .u8 0), D.v (Value.bool false)]).drop 64 = a.1.map bD ++ (b.1.map bD ++ [D.v (Value.bool false)]) := by
  have h := len_encH a
  rw [List.take_append_of_le_length (by omega), List.take_of_length_le (by omega), List.drop_append, List.drop_of_length_le (by omega), h, List.nil_append, List.append_assoc]
  rfl
theorem ed2 (a b : H32) (x y : D) : (a.1.map bD ++ (b.1.map bD ++ [x])).take 64 ++ [y] ++ (a.1.map bD ++ (b.1.map bD ++ [x])).drop 65 = a.1.map bD ++ (b.1.map bD ++ [y]) := by
  have h := len_encH a
  have h' := len_encH b
  have hl : (a.1.map bD ++ (b.1.map bD ++ [x])).length = 65 := by simp only [List.length_append, h, h', List.length_singleton]
  rw [List.drop_of_length_le (by omega), List.take_append, List.take_of_length_le (by omega), h, List.take_append_of_le_length (by omega), List.take_of_length_le (by omega)]
  simp
section
set_option maxRecDepth 200000
set_option maxHeartbeats 8000000
theorem reachO {kc kr k : Nat} {F : Nat → Prop} {vs : List DVer} (hne : kc ≠ kr) (hl : vs.length ≤ 1000000) : ReachI 38 [.loc kc 0, .loc kr 0] k F vs (OutI kc kr k vs) := by
  refine ⟨fun G e S a b hel hS ha hb hr hI hFG => ?_, fun G e S T h hs hn => ?_, fun G e S h => h.2.2.2.2⟩
  · obtain ⟨⟨own, h1, h2⟩, h3, h4, h5, h6⟩ := hI
    obtain ⟨ow, bb, q, c, es, zs, o, g1, g2, g3, g4, g5, g6⟩ := hr.open (by omega)
    refine dcalls_inline mixed Tryz.func38 rfl (fun _ _ => by kernel_rfl) (rs := []) rfl (by kernel_rfl) (fun hS => ?_)
    have hgn : ∀ i, i < vs.length → ((vs.map (·.name)).map encH).getD i undefD = encH (nmAt vs i) := fun i hi => by
      rw [nmAt_lt hi]
      simp [List.getD, hi]
    have hga := hgn a ha
    have hgb := hgn b hb
    have hnl : ((vs.map (·.name)).map encH).length = vs.length := by simp
    have la := (nmAt vs a).2
    have lb := (nmAt vs b).2
    have hget := flatR_get (j := 0) g5 (g6 b hb) (by omega) zs
    rw [show (verD vs[b] (o b) (besL vs b)).cells.getD 0 undefD = .v (.int .i64 (upOf vs b)) by rw [upOf_lt hb]; rfl, Nat.add_zero] at hget
    have hfit := flatR_fit g5 (g6 b hb) zs
    (simp (disch := first | decide | omega | (simp only [nx]; first | done | omega)) only [go_sem]; (repeat with_reducible refine aI ?_))
    refine ddraw_any (fun S' => S'.ob k = some (.box 95 [.sl ow ((vs.map (·.name)).map encH), .win q 0 vs.length c, .v (.map (some bb))]) ∧ S'.ob q = some (.box 99 (flat es ++ zs)) ∧ S'.ob kr = some (.box 30 [.loc k 0]) ∧ S'.ob kc = some (.box 52 [.sl own (e.map (edD vs))])) 28 (by (first | (simp (disch := first | decide | omega | (simp only [nx]; first | done | omega)) only [go_sem, g1, g2, h3, h1, true_and, and_true]; first | done | rfl) | rfl)) (by kernel_rfl) ?_
    (refine s_take 0 rfl (by kernel_rfl) (by kernel_rfl) (v := ?v1) (fun S' hz => dquietR_of ?h1) <| s_take 1 rfl (by kernel_rfl) (by kernel_rfl) (v := ?v2) (fun S' hz => dquietR_of ?h2) <| s_take 2 rfl (by kernel_rfl) (by kernel_rfl) (v := ?v3) (fun S' hz => dquietR_of ?h3) <| s_take 3 rfl (by kernel_rfl) (by kernel_rfl) (v := ?v4) (fun S' hz => dquietR_of ?h4) <| s_take 4 rfl (by kernel_rfl) (by kernel_rfl) (v := ?v5) (fun S' hz => dquietR_of ?h5) <| s_take 5 rfl (by kernel_rfl) (by kernel_rfl) (v := ?v6) (fun S' hz => dquietR_of ?h6) <| s_take 6 rfl (by kernel_rfl) (by kernel_rfl) (v := ?v7) (fun S' hz => dquietR_of ?h7) <| s_take 7 rfl (by kernel_rfl) (by kernel_rfl) (v := ?v8) (fun S' hz => dquietR_of ?h8) <| ?k8; (case h1 | h2 | h3 | h4 | h5 | h6 | h7 | h8 => ((simp (disch := first | decide | omega | (simp only [nx]; first | done | omega)) only [go_sem, hz.1, hz.2.1, hz.2.2.1, hz.2.2.2, nD, iD, hga, hgb, hnl, la, lb, hz]; (repeat with_reducible refine aI ?_)); first | done | exact rfl | omega)))
    (refine s_take 8 rfl (by kernel_rfl) (by kernel_rfl) (v := ?v9) (fun S' hz => dquietR_of ?h9) <| s_take 9 rfl (by kernel_rfl) (by kernel_rfl) (v := ?v10) (fun S' hz => dquietR_of ?h10) <| s_take 10 rfl (by kernel_rfl) (by kernel_rfl) (v := ?v11) (fun S' hz => dquietR_of ?h11) <| s_take 11 rfl (by kernel_rfl) (by kernel_rfl) (v := ?v12) (fun S' hz => dquietR_of ?h12) <| s_take 12 rfl (by kernel_rfl) (by kernel_rfl) (v := ?v13) (fun S' hz => dquietR_of ?h13) <| s_take 13 rfl (by kernel_rfl) (by kernel_rfl) (v := ?v14) (fun S' hz => dquietR_of ?h14) <| s_take 14 rfl (by kernel_rfl) (by kernel_rfl) (v := ?v15) (fun S' hz => dquietR_of ?h15) <| ?k15; (case h9 | h10 | h11 | h12 | h13 | h14 | h15 => ((simp (disch := first | decide | omega | (simp only [nx]; first | done | omega)) only [go_sem, hz.1, hz.2.1, hz.2.2.1, hz.2.2.2, nD, iD, hga, hgb, hnl, la, lb, hz]; (repeat with_reducible refine aI ?_)); first | done | exact rfl | omega)))
    (refine s_take 15 rfl (by kernel_rfl) (by kernel_rfl) (v := ?v16) (fun S' hz => dquietR_of ?h16) <| s_take 16 rfl (by kernel_rfl) (by kernel_rfl) (v := ?v17) (fun S' hz => dquietR_of ?h17) <| s_take 17 rfl (by kernel_rfl) (by kernel_rfl) (v := ?v18) (fun S' hz => dquietR_of ?h18) <| s_take 18 rfl (by kernel_rfl) (by kernel_rfl) (v := ?v19) (fun S' hz => dquietR_of ?h19) <| s_take 19 rfl (by kernel_rfl) (by kernel_rfl) (v := ?v20) (fun S' hz => dquietR_of ?h20) <| s_take 20 rfl (by kernel_rfl) (by kernel_rfl) (v := ?v21) (fun S' hz => dquietR_of ?h21) <| s_take 21 rfl (by kernel_rfl) (by kernel_rfl) (v := ?v22) (fun S' hz => dquietR_of ?h22) <| s_take 22 rfl (by kernel_rfl) (by kernel_rfl) (v := ?v23) (fun S' hz => dquietR_of ?h23) <| s_take 23 rfl (by kernel_rfl) (by kernel_rfl) (v := ?v24) (fun S' hz => dquietR_of ?h24) <| s_take 24 rfl (by kernel_rfl) (by kernel_rfl) (v := ?v25) (fun S' hz => dquietR_of ?h25) <| ?k25; (case h16 | h17 | h18 | h19 | h20 | h21 | h22 | h23 | h24 | h25 => ((simp (disch := first | decide | omega | (simp only [nx]; first | done | omega)) only [go_sem, hz.1, hz.2.1, hz.2.2.1, hz.2.2.2, nD, iD, hget, Nat.mul_one, Nat.zero_add, hz]; (repeat with_reducible refine aI ?_)); first | done | exact rfl | omega)))
    refine s_take 25 rfl (by kernel_rfl) (by kernel_rfl) (v := edD vs (a, b)) (fun S' hz => dquietR_of ?hqc) ?kqc
    case hqc =>
      (simp (disch := first | decide | omega | (simp only [nx]; first | done | omega)) only [go_sem, la, lb]; (repeat with_reducible refine aI ?_))
      rw [ed1, ed2]
      refine ⟨⟨?_, ?_⟩, rfl⟩
      · simp only [List.length_append, len_encH, List.length_cons, List.length_nil]; omega
      · rw [List.length_append, List.length_append, len_encH, len_encH]; exact Nat.le_refl _
    (refine s_take 26 rfl (by kernel_rfl) (by kernel_rfl) (v := ?v26) (fun S' hz => dquietR_of ?h26) ?k26; (case h26 => ((simp (disch := first | decide | omega | (simp only [nx]; first | done | omega)) only [go_sem, cl_edD, okCell_edD, width_edD, hz]; (repeat with_reducible refine aI ?_)); first | done | exact rfl | omega)))
    (refine s_split [27] (by kernel_rfl) (by simp) ?_; intro j_ hj_; obtain rfl : j_ = 27 := (by simpa using hj_); clear hj_; refine s_op rfl ?_; (simp (disch := first | decide | omega | (simp only [nx]; first | done | omega)) only [go_sem]; (repeat with_reducible refine aI ?_)))
    have hel2 : (e.map (edD vs)).length = e.length := List.length_map _
    refine dapp_rowF elEd zeEd byEd (h2.imp id fun ⟨g, _, e1, e2⟩ => ⟨g, e1, by rw [hel2]; exact e2⟩) (by rw [hel2]; omega) (fun d hd => by obtain ⟨x, _, rfl⟩ := List.mem_map.1 hd; rw [szEd]; exact width_edD vs x) (by rw [szEd]; exact width_edD vs _) ?_
    rw [hel2]
    have hown : ∀ g, own = .row g → G g ∧ S.ob g = some (.row 59 e.length) := fun g e1 => by
      rcases h2 with e2 | ⟨g', q1, e2, q3⟩
      · rw [e2] at e1; cases e1
      · rw [e2] at e1; injection e1 with e1; subst e1; exact ⟨q1, q3⟩
    have keep : ∀ j t cs, S.ob j = some (.box t cs) → (S.grow own 59 (e.length + 1)).ob j = some (.box t cs) := fun j t cs ej => growR_keep hS ej fun g eg e2 => by
      have := (hown g eg).2
      rw [← e2, ej] at this
      cases this
    have z1 := keep _ _ _ g1
    have z2 := keep _ _ _ g2
    have z3 := keep _ _ _ h3
    have z4 := keep _ _ _ h1
    refine ⟨⟨z1, z2, z3, z4⟩, ?_⟩
    (refine s_done (by kernel_rfl) ?_; (simp (disch := first | decide | omega | (simp only [nx]; first | done | omega)) only [go_sem, z1, z2, z3, z4]; (repeat with_reducible refine aI ?_)))
    have hnew : (S.grow own 59 (e.length + 1)).ob S.next = some (.row 59 (e.length + 1)) := growR_new
    have hnx : (S.grow own 59 (e.length + 1)).next = S.next + 1 := grow_next _ _ _ _
    have hold : ∀ j o, S.ob j = some o → ¬ G j → (S.grow own 59 (e.length + 1)).ob j = some o := fun j o ej hj => growR_keep hS ej fun g eg e2 => hj (by rw [e2]; exact (hown g eg).1)
    have hkc := hS.lt h1
    generalize S.grow own 59 (e.length + 1) = S2 at *
    refine ⟨fun q => G q ∨ q = S.next, ⟨⟨.row S.next, ?_, .inr ⟨S.next, .inr rfl, rfl, ?_⟩⟩, ?_, .inl h4, .inl h5, fun q hq => ?_⟩, fun q hq => hq.imp id (fun e => by omega), fun q o hq e => ?_, ?_⟩
    · simp only [St.set, if_true, List.map_append]; rfl
    · simp only [St.set]
      rw [if_neg (by omega), List.length_append]
      exact hnew
    · simp only [St.set]; rw [if_neg (fun e => hne e.symm)]; exact z3
    · show q < S2.next
      rcases hq with hq | rfl
      · have := h6 q hq; omega
      · omega
    · simp only [St.set]
      rw [if_neg (fun e2 => hq (by rw [e2]; exact h4))]
      exact hold q o e hq
    · show S.next ≤ S2.next
      omega
  · obtain ⟨⟨own, h1, h2⟩, h3, h4, h5, h6⟩ := h
    refine ⟨⟨own, hs _ _ h4 h1, h2.imp id fun ⟨g, q1, q2, q3⟩ => ⟨g, q1, q2, hs _ _ q1 q3⟩⟩, hs _ _ h5 h3, h4, h5, fun q hq => Nat.lt_of_lt_of_le (h6 q hq) hn⟩
theorem out_at {S : St} {k : Nat} {F : Nat → Prop} {vs : List DVer} (hr : RegAt k F vs S) (hl : vs.length ≤ 1000000) {h : H32} {a : Nat} (ha : findR vs h = some a) :
    DCalls Tryz.prog 15 [.loc k 0, encH h] S (fun d T => (∃ own, d = .sl own ((outW vs a).map (edD vs))) ∧ S.Sub T) := by
  obtain ⟨hal, han⟩ := findR_some ha
  refine dcalls_inline mixed Tryz.func15 rfl (fun _ _ => by kernel_rfl) (rs := [.tmp 4]) rfl (by kernel_rfl) (fun hS => ?_)
  have l1 := h.2
  (simp (disch := first | decide | omega | (simp only [nx]; first | done | omega)) only [go_sem, l1]; (repeat with_reducible refine aI ?_))
  generalize hX : St.add (St.add S _) _ = S1
  have hs1 : S.Sub S1 := by rw [← hX]; exact ((St.Sub.refl S).add hS _).add hS _
  have hW1 : S1.WF := by rw [← hX]; exact (hS.add _).add _
  have hn1 : S1.next = S.next + 2 := by rw [← hX]; rfl
  have b1 : S1.ob S.next = some (.box 30 [.loc k 0]) := by rw [← hX]; (first | (simp (disch := first | decide | omega | (simp only [nx]; first | done | omega)) only [go_sem]; first | done | rfl) | rfl)
  have b2 : S1.ob (S.next + 1) = some (.box 39 (h.1.map bD)) := by rw [← hX]; (first | (simp (disch := first | decide | omega | (simp only [nx]; first | done | omega)) only [go_sem]; first | done | rfl) | rfl)
  clear hX
  have hr1 := hr.sub hs1
  refine go_at (find_at hr1 h) ?_
  rw [ha]
  (simp (disch := first | decide | omega | (simp only [nx]; first | done | omega)) only [go_sem, b1, b2, l1]; (repeat with_reducible refine aI ?_))
  generalize hX : St.add S1 _ = S2
  have hs2 : S1.Sub S2 := by rw [← hX]; exact (St.Sub.refl S1).add hW1 _
  have hW2 : S2.WF := by rw [← hX]; exact hW1.add _
  have hn2 : S2.next = S1.next + 1 := by rw [← hX]; rfl
  have c1 : S2.ob S1.next = some (.box 52 [.sl .full []]) := by rw [← hX]; (first | (simp (disch := first | decide | omega | (simp only [nx]; first | done | omega)) only [go_sem]; first | done | rfl) | rfl)
  have c2 := hs2.ob _ _ b1
  clear hX
  have hr2 := hr1.sub hs2
  have hsS := hs1.trans hs2
  refine DCalls.mono (DCalls.wf (walk_at hr2 hal hl (reachO (k := k) (F := F) (kc := S1.next) (kr := S.next) (by omega) hl) (G0 := fun q => q = S1.next ∨ q = S.next) ⟨⟨.full, c1, .inl rfl⟩, c2, .inl rfl, .inr rfl, fun q hq => by rcases hq with rfl | rfl <;> omega⟩ (fun q hq h => by have := hr.lt q hq; rcases h with rfl | rfl <;> omega))) ?_
  rintro d T ⟨⟨rfl, G', ⟨⟨own, e1, _⟩, _⟩, hG', hfr⟩, hT⟩
  have hsT : S.Sub T := ⟨by have := hfr.next; have := hsS.next; omega, fun q o e => hfr.ob _ _ (by have := hS.lt e; omega) (hsS.ob _ _ e)⟩
  (simp (disch := first | decide | omega | (simp only [nx]; first | done | omega)) only [go_sem, e1]; (repeat with_reducible refine aI ?_))
  exact ⟨⟨own, rfl⟩, hsT⟩
end
end Go.Proofs.YtogbklnkpjjkoaaGreatDoor

namespace Go.Proofs.YtogbklnkpjjkoaaGreatDoor
open Go.RowKit
def erO' (n : Int) : D := if n = 0 then .v .nilIface else erD' n
def addR (vs : List DVer) (name from_ : H32) (l : DLens) (tg : DSch → DSch × Int) : List DVer × Int :=
  match findR vs from_ with
  | none => (vs, 7)
  | some k => if (findR vs name).isSome then (vs, 8) else
    if (tg ((vs[k]?.map (·.sch)).getD zeroS)).2 ≠ 0 then (vs, (tg ((vs[k]?.map (·.sch)).getD zeroS)).2) else (vs ++ [⟨name, (k : Int), l, (tg ((vs[k]?.map (·.sch)).getD zeroS)).1⟩], 0)
theorem verCs_sch (v : DVer) (o : Own) (b : List Nat) : ((verCs v o b).drop 21).take 3 = (encS v.sch).cells := by
  have h1 := cells_encL v.lens
  have h2 := cells_encS v.sch
  simp only [verCs, List.drop_succ_cons]
  rw [List.drop_append, List.drop_of_length_le (by omega), h1, List.nil_append, Nat.sub_self, List.drop_zero, List.take_append_of_le_length (by omega), List.take_of_length_le (by omega)]
theorem cells_lCs (l : DLens) : (encL l).cells = lCs l (.sl .no (l.pairs.map encPr)) (.sl .no (l.inner.map encL)) := by rw [encL_lCs]; rfl
theorem ver_lCs (a : Nat) (name : H32) (l : DLens) (t : DSch) : D.agg (D.v (.int .i64 (a : Int)) :: (lCs l (.sl .no (l.pairs.map encPr)) (.sl .no (l.inner.map encL)) ++ (sCs t ++ [.sl .full []]))) = verD ⟨name, (a : Int), l, t⟩ .full [] := by
  unfold verD verCs
  rw [cells_lCs, cells_sCs]
  rfl
section
set_option maxRecDepth 200000
set_option maxHeartbeats 8000000
theorem add_at {S : St} {k : Nat} {F : Nat → Prop} {vs : List DVer} (hr : RegAt k F vs S) (hw : WfR vs) (hne : 0 < vs.length) (hl : vs.length ≤ 1000000) (name from_ : H32) (l : DLens) (hrm : roomL 8 l = true) (hok : okL l) (tg : DSch → DSch × Int)
    (hT : ∀ i (hi : i < vs.length), DPure Tryz.prog 42 [encL l, encS vs[i].sch] (.tup [encS (tg vs[i].sch).1, erO' (tg vs[i].sch).2])) :
    DCalls Tryz.prog 20 [.loc k 0, encH name, encH from_, encL l] S (fun d T => d = erO' (addR vs name from_ l tg).2 ∧ ∃ F', RegAt k F' (addR vs name from_ l tg).1 T ∧ (∀ q, F' q → F q ∨ S.next ≤ q) ∧ FrN F S T) := by
  refine dcalls_inline mixed Tryz.func20 rfl (fun _ _ => by kernel_rfl) (rs := [.tmp 8]) rfl (by kernel_rfl) (fun hS => ?_)
  have l1 := name.2
  have l2 := from_.2
  (simp (disch := first | decide | omega | (simp only [nx]; first | done | omega)) only [go_sem, l1, l2]; (repeat with_reducible refine aI ?_))
  generalize hX : St.add (St.add (St.add S _) _) _ = S1
  have hs1 : S.Sub S1 := by rw [← hX]; exact (((St.Sub.refl S).add hS _).add hS _).add hS _
  have hW1 : S1.WF := by rw [← hX]; exact ((hS.add _).add _).add _
  have hn1 : S1.next = S.next + 3 := by rw [← hX]; rfl
  have b1 : S1.ob S.next = some (.box 39 (name.1.map bD)) := by rw [← hX]; (first | (simp (disch := first | decide | omega | (simp only [nx]; first | done | omega)) only [go_sem]; first | done | rfl) | rfl)
  have b2 : S1.ob (S.next + 1) = some (.box 39 (from_.1.map bD)) := by rw [← hX]; (first | (simp (disch := first | decide | omega | (simp only [nx]; first | done | omega)) only [go_sem]; first | done | rfl) | rfl)
  have b3 : S1.ob (S.next + 1 + 1) = some (.box 47 (encL l).cells) := by rw [← hX]; (first | (simp (disch := first | decide | omega | (simp only [nx]; first | done | omega)) only [go_sem]; first | done | rfl) | rfl)
  clear hX
  have hr1 := hr.sub hs1
  refine go_at (find_at hr1 from_) ?_
  cases ha : findR vs from_ with
  | none =>
    have c1 : (none : Option Nat).isSome = false := rfl
    have e1 : addR vs name from_ l tg = (vs, 7) := by simp [addR, ha]
    (simp (disch := first | decide | omega | (simp only [nx]; first | done | omega)) only [go_sem, c1, b1, b2, l1, l2]; (repeat with_reducible refine aI ?_))
    rw [e1]
    exact ⟨rfl, F, hr1, fun q h => .inl h, FrN.of_sub hs1⟩
  | some a =>
    obtain ⟨hal, han⟩ := findR_some ha
    have c1 : (some a).isSome = true := rfl
    (simp (disch := first | decide | omega | (simp only [nx]; first | done | omega)) only [go_sem, c1, b1, b2, l1, l2]; (repeat with_reducible refine aI ?_))
    refine go_at (find_at hr1 name) ?_
    cases hn : findR vs name with
    | some b =>
      have c2 : (some b).isSome = true := rfl
      have e1 : addR vs name from_ l tg = (vs, 8) := by simp [addR, ha, hn]
      (simp (disch := first | decide | omega | (simp only [nx]; first | done | omega)) only [go_sem, c2, b1, b2, l1, l2]; (repeat with_reducible refine aI ?_))
      rw [e1]
      exact ⟨rfl, F, hr1, fun q h => .inl h, FrN.of_sub hs1⟩
    | none =>
      have c2 : (none : Option Nat).isSome = false := rfl
      obtain ⟨ow, bb, q, c, es, zs, o, g1, g2, g3, g4, g5, g6⟩ := hr1.open hne
      have hget := flatR_part (a := 21) (b := 3) g5 (g6 a hal) (by omega) zs
      rw [show (verD vs[a] (o a) (besL vs a)).cells = verCs vs[a] (o a) (besL vs a) from rfl, verCs_sch] at hget
      have hfit := flatR_fit g5 (g6 a hal) zs
      (simp (disch := first | decide | omega | (simp only [nx]; first | done | omega)) only [go_sem, c2, b1, b2, l1, l2]; (repeat with_reducible refine aI ?_))
      refine ddraw_any (fun S' => S'.ob k = some (.box 95 [.sl ow ((vs.map (·.name)).map encH), .win q 0 vs.length c, .v (.map (some bb))]) ∧ S'.ob q = some (.box 99 (flat es ++ zs)) ∧ S'.ob (S.next + 1 + 1) = some (.box 47 (encL l).cells)) 16 (by (first | (simp (disch := first | decide | omega | (simp only [nx]; first | done | omega)) only [go_sem, g1, g2, b3, true_and, and_true]; first | done | rfl) | rfl)) (by kernel_rfl) ?_
      (refine s_take 0 rfl (by kernel_rfl) (by kernel_rfl) (v := ?v1) (fun S' hz => dquietR_of ?h1) <| s_take 1 rfl (by kernel_rfl) (by kernel_rfl) (v := ?v2) (fun S' hz => dquietR_of ?h2) <| s_take 2 rfl (by kernel_rfl) (by kernel_rfl) (v := ?v3) (fun S' hz => dquietR_of ?h3) <| s_take 3 rfl (by kernel_rfl) (by kernel_rfl) (v := ?v4) (fun S' hz => dquietR_of ?h4) <| s_take 4 rfl (by kernel_rfl) (by kernel_rfl) (v := ?v5) (fun S' hz => dquietR_of ?h5) <| s_take 5 rfl (by kernel_rfl) (by kernel_rfl) (v := ?v6) (fun S' hz => dquietR_of ?h6) <| s_take 6 rfl (by kernel_rfl) (by kernel_rfl) (v := ?v7) (fun S' hz => dquietR_of ?h7) <| s_take 7 rfl (by kernel_rfl) (by kernel_rfl) (v := ?v8) (fun S' hz => dquietR_of ?h8) <| s_take 8 rfl (by kernel_rfl) (by kernel_rfl) (v := ?v9) (fun S' hz => dquietR_of ?h9) <| ?k9; (case h1 | h2 | h3 | h4 | h5 | h6 | h7 | h8 | h9 => ((simp (disch := first | decide | omega | (simp only [nx]; first | done | omega)) only [go_sem, hz.1, hz.2.1, hz.2.2, hget, Option.getD_some, hz]; (repeat with_reducible refine aI ?_)); first | done | exact rfl | omega)))
      (refine s_take 9 rfl (by kernel_rfl) (by kernel_rfl) (v := ?v10) (fun S' hz => dquietR_of ?h10) ?k10; (case h10 => ((simp (disch := first | decide | omega | (simp only [nx]; first | done | omega)) only [go_sem, hz]; (repeat with_reducible refine aI ?_)); refine dqgo_mk (hT a hal) ?_; exact rfl)))
      (refine s_take 10 rfl (by kernel_rfl) (by kernel_rfl) (v := ?v11) (fun S' hz => dquietR_of ?h11) <| s_take 11 rfl (by kernel_rfl) (by kernel_rfl) (v := ?v12) (fun S' hz => dquietR_of ?h12) <| s_take 12 rfl (by kernel_rfl) (by kernel_rfl) (v := ?v13) (fun S' hz => dquietR_of ?h13) <| ?k13; (case h11 | h12 | h13 => ((simp (disch := first | decide | omega | (simp only [nx]; first | done | omega)) only [go_sem, hz]; (repeat with_reducible refine aI ?_)); first | done | exact rfl | omega)))
      (refine s_split [13] (by kernel_rfl) (by simp) ?_; intro j_ hj_; obtain rfl : j_ = 13 := (by simpa using hj_); clear hj_; refine s_op rfl ?_; (simp (disch := first | decide | omega | (simp only [nx]; first | done | omega)) only [go_sem]; (repeat with_reducible refine aI ?_)))
      have hsA : S1.Sub (S1.add (.box 25 [.v (.int .i64 0), .sl .full [], .sl .full []])) := (St.Sub.refl S1).add hW1 _
      refine ⟨⟨hsA.ob _ _ g1, hsA.ob _ _ g2, by first | exact b3 | exact hsA.ob _ _ b3⟩, ?_⟩
      (refine s_split [14] (by kernel_rfl) (by simp) ?_; intro j_ hj_; obtain rfl : j_ = 14 := (by simpa using hj_); clear hj_; refine s_op rfl ?_; (simp (disch := first | decide | omega | (simp only [nx]; first | done | omega)) only [go_sem]; (repeat with_reducible refine aI ?_)))
      have hsB : S1.Sub ((S1.add (.box 25 [.v (.int .i64 0), .sl .full [], .sl .full []])).set S1.next (.box 25 (encS (tg vs[a].sch).1).cells)) := hsA.set hW1 (Nat.le_refl _) _
      refine ⟨⟨hsB.ob _ _ g1, hsB.ob _ _ g2, by first | exact b3 | exact hsB.ob _ _ b3⟩, ?_⟩
      (refine s_take 15 rfl (by kernel_rfl) (by kernel_rfl) (v := ?v14) (fun S' hz => dquietR_of ?h14) ?k14; (case h14 => ((simp (disch := first | decide | omega | (simp only [nx]; first | done | omega)) only [go_sem, hz]; (repeat with_reducible refine aI ?_)); first | done | exact rfl | omega)))
      (refine s_done (by kernel_rfl) ?_; (simp (disch := first | decide | omega | (simp only [nx]; first | done | omega)) only [go_sem, Option.getD_some]; (repeat with_reducible refine aI ?_)))
      generalize hX : St.set (St.add S1 _) _ _ = S2 at *
      have hW2 : S2.WF := by rw [← hX]; exact (hW1.add _).set (Nat.lt_succ_self _) _
      have b4 : S2.ob S1.next = some (.box 25 (encS (tg vs[a].sch).1).cells) := by rw [← hX]; (first | (simp (disch := first | decide | omega | (simp only [nx]; first | done | omega)) only [go_sem]; first | done | rfl) | rfl)
      clear hX
      have hsS := hs1.trans hsB
      have hsch : (vs[a]?.map (·.sch)).getD zeroS = vs[a].sch := by simp [hal]
      by_cases hc : (tg vs[a].sch).2 = 0
      · have e0 : erO' (tg vs[a].sch).2 = .v .nilIface := by unfold erO'; rw [if_pos hc]
        have e1 : addR vs name from_ l tg = (vs ++ [⟨name, (a : Int), l, (tg vs[a].sch).1⟩], 0) := by simp [addR, ha, hn, hal, hc]
        have nn : dbin Tryz.prog .neq 66 (.tmp 48) (.const .nilIface) (.v .nilIface) (.v .nilIface) = some (True, .v (.bool false)) := by kernel_rfl
        rw [e0]
        (simp (disch := first | decide | omega | (simp only [nx]; first | done | omega)) only [go_sem, nn]; (repeat with_reducible refine aI ?_))
        have bn := hsB.ob _ _ b1
        have bl := hsB.ob _ _ b3
        have lc := cells_encS (tg vs[a].sch).1
        refine ddraw_any (fun S' => S'.ob S.next = some (.box 39 (name.1.map bD)) ∧ S'.ob (S.next + 1 + 1) = some (.box 47 (encL l).cells) ∧ S'.ob S1.next = some (.box 25 (encS (tg vs[a].sch).1).cells)) 8 (by (first | (simp (disch := first | decide | omega | (simp only [nx]; first | done | omega)) only [go_sem, bn, bl, b4, true_and, and_true]; first | done | rfl) | rfl)) (by kernel_rfl) ?_
        (refine s_take 0 rfl (by kernel_rfl) (by kernel_rfl) (v := ?v15) (fun S' hz => dquietR_of ?h15) <| s_take 1 rfl (by kernel_rfl) (by kernel_rfl) (v := ?v16) (fun S' hz => dquietR_of ?h16) <| s_take 2 rfl (by kernel_rfl) (by kernel_rfl) (v := ?v17) (fun S' hz => dquietR_of ?h17) <| s_take 3 rfl (by kernel_rfl) (by kernel_rfl) (v := ?v18) (fun S' hz => dquietR_of ?h18) <| ?k18; (case h15 | h16 | h17 | h18 => ((simp (disch := first | decide | omega | (simp only [nx]; first | done | omega)) only [go_sem, hz.1, hz.2.1, hz.2.2, l1, Option.getD_some, hz]; (repeat with_reducible refine aI ?_)); first | done | exact rfl | omega)))
        (refine s_take 4 rfl (by kernel_rfl) (by kernel_rfl) (v := ?v19) (fun S' hz => dquietR_of ?h19) ?k19; (case h19 => ((simp (disch := first | decide | omega | (simp only [nx]; first | done | omega)) only [go_sem, hz]; (repeat with_reducible refine aI ?_)); refine dqgo_mk (copyL_d 8 l hrm hok) ?_; exact rfl)))
        (refine s_take 5 rfl (by kernel_rfl) (by kernel_rfl) (v := ?v20) (fun S' hz => dquietR_of ?h20) ?k20; (case h20 => ((simp (disch := first | decide | omega | (simp only [nx]; first | done | omega)) only [go_sem, hz.1, hz.2.1, hz.2.2, hz]; (repeat with_reducible refine aI ?_)); first | done | exact rfl | omega)))
        (refine s_take 6 rfl (by kernel_rfl) (by kernel_rfl) (v := D.agg (D.v (.int .i64 (a : Int)) :: (lCs l (.sl .no (l.pairs.map encPr)) (.sl .no (l.inner.map encL)) ++ (sCs (tg vs[a].sch).1 ++ [.sl .full []])))) (fun S' hz => dquietR_of (by (simp (disch := first | decide | omega | (simp only [nx]; first | done | omega)) only [go_sem, cells_lCs, lCs, cells_sCs, sCs]; (repeat with_reducible refine aI ?_)); first | done | rfl | omega)) ?_)
        (refine s_split [7] (by kernel_rfl) (by simp) ?_; intro j_ hj_; obtain rfl : j_ = 7 := (by simpa using hj_); clear hj_; refine s_op rfl ?_; (simp (disch := first | decide | omega | (simp only [nx]; first | done | omega)) only [go_sem]; (repeat with_reducible refine aI ?_)))
        rw [ver_lCs a name]
        have hr2 : RegAt k F vs S2 := hr.sub hsS
        have hn2 := hsB.next
        refine DCalls.mono (DCalls.wf (reg_a hr2 ⟨name, (a : Int), l, (tg vs[a].sch).1⟩ hw (.inr ⟨by show (0 : Int) ≤ (a : Int); omega, by show (a : Int) < _; omega⟩) hn hl)) ?_
        rintro d T ⟨⟨rfl, F', hrT, hF, hfr⟩, hT2⟩
        have nF : ∀ q, S.next ≤ q → ¬ F q := fun q h1 h2 => by have := hr.lt q h2; omega
        have t1 := hfr.ob _ _ (nF _ (by omega)) bn
        have t2 := hfr.ob _ _ (nF _ (by omega)) bl
        have t3 := hfr.ob _ _ (nF _ (by omega)) b4
        refine ⟨⟨t1, t2, t3⟩, ?_⟩
        (refine s_done (by kernel_rfl) ?_; (simp (disch := first | decide | omega | (simp only [nx]; first | done | omega)) only [go_sem, t1, t2, t3]; (repeat with_reducible refine aI ?_)))
        rw [e1]
        exact ⟨rfl, F', hrT, fun q hq => (hF q hq).imp id (fun h => by have := hsS.next; omega), fun q o hq e => hfr.ob _ _ hq (hsS.ob _ _ e), by have := hsS.next; have := hfr.next; omega⟩
      · have e0 : erO' (tg vs[a].sch).2 = erD' (tg vs[a].sch).2 := by unfold erO'; rw [if_neg hc]
        have e1 : addR vs name from_ l tg = (vs, (tg vs[a].sch).2) := by simp [addR, ha, hn, hal, hc]
        rw [e0]
        (simp (disch := first | decide | omega | (simp only [nx]; first | done | omega)) only [go_sem, erD']; (repeat with_reducible refine aI ?_))
        rw [e1]
        exact ⟨e0.symm, F, hr.sub hsS, fun q h => .inl h, FrN.of_sub hsS⟩
end
end Go.Proofs.YtogbklnkpjjkoaaGreatDoor

namespace Go.Proofs.YtogbklnkpjjkoaaGreatDoor
open Go.RowKit
section
set_option maxRecDepth 200000
set_option maxHeartbeats 8000000
theorem target_d : ∀ (n k : Nat) (l : DLens) (d : Nat) (s : DSch), Lo k n l → d ≤ 5 → rightS d s = true → okS s → DPure Tryz.prog 55 [encL l, encS s] (tupBs (targetS n l s)) := by
  intro n
  induction n with
  | zero => intro k l d s hl; exact absurd hl.right (by simp [rightL])
  | succ n ih =>
    intro k l d s hl hd hr hsk
    have ho := (okL_eq l).1 hl.ok
    have hsw : Wt s 42129 := ⟨hsk, Nat.le_trans (rightS_wB d s hr) (wB_le5 hd)⟩
    have hsw2 := hsw.2
    have hr5 := rightS_le hr hd
    have fin : ∀ {x : DSch} {y : D} {b c : Bool} {r : DSch × Bool}, r = (x, c) → b = c → y.frz = encS x → (D.tup [y, .v (.bool b)]).frz = tupBs r := fun h h2 h3 => by rw [h, h2]; simp only [D.frz, frzL, h3, tupBs]
    refine dpure_of_dwp mixed Tryz.func55 rfl (fun _ _ => by kernel_rfl) (rs := [.cell 4 25, .tmp 5]) rfl (by kernel_rfl) (tupBs_cl _) (fun S hS => ?_)
    (simp (disch := first | decide | omega | (simp only [nx]; first | done | omega)) only [go_sem, encL_eq l]; (repeat with_reducible refine aI ?_))
    refine DCalls.of_pure (record_d s l.a hsk (by omega)) ?_
    cases h5 : s.kind == 5 with
    | false =>
      have he : targetS (n + 1) l s = (s, false) := by rw [targetS, if_neg (fun h => by rw [h.1] at h5; cases h5)]
      (simp (disch := first | decide | omega | (simp only [nx]; first | done | omega)) only [go_sem, h5]; (repeat with_reducible refine aI ?_))
      refine ⟨?_, (by (repeat' first | assumption | exact St.Sub.refl _ | exact RowOk.sub (by assumption) (by assumption) | refine St.Sub.trans ?_ (RowOk.sub (by assumption) (by assumption)) | refine St.Sub.add ?_ ?_ _ | refine St.Sub.set ?_ ?_ ?_ _ | refine St.Sub.keep ?_ ?_ | refine St.WF.leave ?_ _ | refine St.WF.add ?_ _ | refine St.WF.set ?_ ?_ _ | refine St.WF.grow ?_ _ _ _ | refine St.WF.keep ?_ ?_ | (first | omega | (simp only [RowOk.lo, nx]; first | done | omega))))⟩
      exact fin he rfl (frz_encS _)
    | true =>
    have k5 : s.kind = 5 := by simpa using h5
    (simp (disch := first | decide | omega | (simp only [nx]; first | done | omega)) only [go_sem, h5]; (repeat with_reducible refine aI ?_))
    refine DCalls.of_pure (schRight_d s hsk) ?_
    (simp (disch := first | decide | omega | (simp only [nx]; first | done | omega)) only [go_sem, hr5]; (repeat with_reducible refine aI ?_))
    refine DCalls.of_pure (fieldS_d s l.a hsk (by omega)) ?_
    have hA := field_wt l.a hsw (by omega)
    by_cases kk : l.kind ≤ 5
    · have b1 : decide (l.kind ≤ 5) = true := decide_eq_true kk
      have hbw := besideS_wt (has := (fieldS s l.a).isSome) hl.ok hl.typ.2 hsw hA (by omega) (by omega) (by omega)
      have he : targetS (n + 1) l s = ((besideS l s ((fieldS s l.a).getD zeroS) (fieldS s l.a).isSome).1, (besideS l s ((fieldS s l.a).getD zeroS) (fieldS s l.a).isSome).2 && rightS 5 (besideS l s ((fieldS s l.a).getD zeroS) (fieldS s l.a).isSome).1) := by rw [targetS, if_pos ⟨k5, hr5⟩, if_pos kk]
      (simp (disch := first | decide | omega | (simp only [nx]; first | done | omega)) only [go_sem, tupS, b1]; (repeat with_reducible refine aI ?_))
      rw [aggL_fold]
      refine DCalls.of_pure (beside_d l s _ _ hl.ok hl.typ.2 (hsw.le (by omega)) (hA.le (by omega))) ?_
      generalize besideS l s ((fieldS s l.a).getD zeroS) (fieldS s l.a).isSome = r at he hbw ⊢
      (simp (disch := first | decide | omega | (simp only [nx]; first | done | omega)) only [go_sem, tupBs]; (repeat with_reducible refine aI ?_))
      refine ddraw_any (fun S' => S'.ob (S.next + 1 + 1 + 1 + 1) = some (.box 25 (encS r.1).cells)) 8 (by (first | (simp (disch := first | decide | omega | (simp only [nx]; first | done | omega)) only [go_sem]; first | done | rfl) | rfl)) (by kernel_rfl) ?_
      (refine s_take 0 rfl (by kernel_rfl) (by kernel_rfl) (v := ?v1) (fun S' hz => dquietR_of ?h1) <| s_take 1 rfl (by kernel_rfl) (by kernel_rfl) (v := ?v2) (fun S' hz => dquietR_of ?h2) <| s_take 2 rfl (by kernel_rfl) (by kernel_rfl) (v := ?v3) (fun S' hz => dquietR_of ?h3) <| ?k3; (case h1 | h2 | h3 => ((simp (disch := first | decide | omega | (simp only [nx]; first | done | omega)) only [go_sem, hz, hz]; (repeat with_reducible refine aI ?_)); first | done | exact rfl | omega)))
      cases h2 : r.2 with
      | false =>
        (refine s_skipG 3 rfl rfl rfl (by first | (left; (first | (simp (disch := first | decide | omega | (simp only [nx]; first | done | omega)) only [go_sem, h2]; first | done | rfl) | rfl); done) | (right; (first | (simp (disch := first | decide | omega | (simp only [nx]; first | done | omega)) only [go_sem, h2]; first | done | rfl) | rfl); done)) (by kernel_rfl) (by kernel_rfl) ?_; refine s_skipG 4 rfl rfl rfl (by first | (left; (first | (simp (disch := first | decide | omega | (simp only [nx]; first | done | omega)) only [go_sem, h2]; first | done | rfl) | rfl); done) | (right; (first | (simp (disch := first | decide | omega | (simp only [nx]; first | done | omega)) only [go_sem, h2]; first | done | rfl) | rfl); done)) (by kernel_rfl) (by kernel_rfl) ?_)
        (refine s_take 5 rfl (by kernel_rfl) (by kernel_rfl) (v := ?v4) (fun S' hz => dquietR_of ?h4) ?k4; (case h4 => ((simp (disch := first | decide | omega | (simp only [nx]; first | done | omega)) only [go_sem, h2, hz]; (repeat with_reducible refine aI ?_)); first | done | exact rfl | omega)))
        (refine s_split [6] (by kernel_rfl) (by simp) ?_; intro j_ hj_; obtain rfl : j_ = 6 := (by simpa using hj_); clear hj_; refine s_op rfl ?_; (simp (disch := first | decide | omega | (simp only [nx]; first | done | omega)) only [go_sem]; (repeat with_reducible refine aI ?_)))
        (refine s_take 7 rfl (by kernel_rfl) (by kernel_rfl) (v := ?v5) (fun S' hz => dquietR_of ?h5) ?k5; (case h5 => ((simp (disch := first | decide | omega | (simp only [nx]; first | done | omega)) only [go_sem, hz]; (repeat with_reducible refine aI ?_)); first | done | exact rfl | omega)))
        (refine s_done (by kernel_rfl) ?_; (simp (disch := first | decide | omega | (simp only [nx]; first | done | omega)) only [go_sem]; (repeat with_reducible refine aI ?_)))
        refine ⟨?_, (by (repeat' first | assumption | exact St.Sub.refl _ | exact RowOk.sub (by assumption) (by assumption) | refine St.Sub.trans ?_ (RowOk.sub (by assumption) (by assumption)) | refine St.Sub.add ?_ ?_ _ | refine St.Sub.set ?_ ?_ ?_ _ | refine St.Sub.keep ?_ ?_ | refine St.WF.leave ?_ _ | refine St.WF.add ?_ _ | refine St.WF.set ?_ ?_ _ | refine St.WF.grow ?_ _ _ _ | refine St.WF.keep ?_ ?_ | (first | omega | (simp only [RowOk.lo, nx]; first | done | omega))))⟩
        exact fin he (by rw [h2]; rfl) (frz_encS _)
      | true =>
        (refine s_takeG 3 rfl rfl rfl (by (first | (simp (disch := first | decide | omega | (simp only [nx]; first | done | omega)) only [go_sem, h2, hz]; first | done | rfl) | rfl)) (by kernel_rfl) (by kernel_rfl) (v := ?v6) (fun S' hz => dquietR_of ?h6) ?k6; (case h6 => ((simp (disch := first | decide | omega | (simp only [nx]; first | done | omega)) only [go_sem, h2, hz, hz]; (repeat with_reducible refine aI ?_)); first | done | exact rfl | omega)))
        (refine s_takeG 4 rfl rfl rfl (by (first | (simp (disch := first | decide | omega | (simp only [nx]; first | done | omega)) only [go_sem, h2]; first | done | rfl) | rfl)) (by kernel_rfl) (by kernel_rfl) (v := ?v7) (fun S' hz => dquietR_of ?h7) ?k7; (case h7 => ((simp (disch := first | decide | omega | (simp only [nx]; first | done | omega)) only [go_sem, h2, hz]; (repeat with_reducible refine aI ?_)); refine dqgo_mk (schRight_d _ hbw.1) ?_; exact rfl)))
        (refine s_take 5 rfl (by kernel_rfl) (by kernel_rfl) (v := ?v8) (fun S' hz => dquietR_of ?h8) ?k8; (case h8 => ((simp (disch := first | decide | omega | (simp only [nx]; first | done | omega)) only [go_sem, h2, hz]; (repeat with_reducible refine aI ?_)); first | done | exact rfl | omega)))
        (refine s_split [6] (by kernel_rfl) (by simp) ?_; intro j_ hj_; obtain rfl : j_ = 6 := (by simpa using hj_); clear hj_; refine s_op rfl ?_; (simp (disch := first | decide | omega | (simp only [nx]; first | done | omega)) only [go_sem]; (repeat with_reducible refine aI ?_)))
        (refine s_take 7 rfl (by kernel_rfl) (by kernel_rfl) (v := ?v9) (fun S' hz => dquietR_of ?h9) ?k9; (case h9 => ((simp (disch := first | decide | omega | (simp only [nx]; first | done | omega)) only [go_sem, hz]; (repeat with_reducible refine aI ?_)); first | done | exact rfl | omega)))
        (refine s_done (by kernel_rfl) ?_; (simp (disch := first | decide | omega | (simp only [nx]; first | done | omega)) only [go_sem]; (repeat with_reducible refine aI ?_)))
        refine ⟨?_, (by (repeat' first | assumption | exact St.Sub.refl _ | exact RowOk.sub (by assumption) (by assumption) | refine St.Sub.trans ?_ (RowOk.sub (by assumption) (by assumption)) | refine St.Sub.add ?_ ?_ _ | refine St.Sub.set ?_ ?_ ?_ _ | refine St.Sub.keep ?_ ?_ | refine St.WF.leave ?_ _ | refine St.WF.add ?_ _ | refine St.WF.set ?_ ?_ _ | refine St.WF.grow ?_ _ _ _ | refine St.WF.keep ?_ ?_ | (first | omega | (simp only [RowOk.lo, nx]; first | done | omega))))⟩
        exact fin he (by rw [h2]; rfl) (frz_encS _)
    · have b1 : decide (l.kind ≤ 5) = false := decide_eq_false kk
      cases hf : (fieldS s l.a).isSome with
      | false =>
        have he : targetS (n + 1) l s = (s, false) := by rw [targetS, if_pos ⟨k5, hr5⟩, if_neg kk, if_neg (by rw [hf]; decide)]
        (simp (disch := first | decide | omega | (simp only [nx]; first | done | omega)) only [go_sem, tupS, b1, hf]; (repeat with_reducible refine aI ?_))
        refine ⟨?_, (by (repeat' first | assumption | exact St.Sub.refl _ | exact RowOk.sub (by assumption) (by assumption) | refine St.Sub.trans ?_ (RowOk.sub (by assumption) (by assumption)) | refine St.Sub.add ?_ ?_ _ | refine St.Sub.set ?_ ?_ ?_ _ | refine St.Sub.keep ?_ ?_ | refine St.WF.leave ?_ _ | refine St.WF.add ?_ _ | refine St.WF.set ?_ ?_ _ | refine St.WF.grow ?_ _ _ _ | refine St.WF.keep ?_ ?_ | (first | omega | (simp only [RowOk.lo, nx]; first | done | omega))))⟩
        exact fin he rfl (frz_encS _)
      | true =>
        cases d with
        | zero => cases hr
        | succ d =>
        have ha := field_right hr hf
        have he : targetS (n + 1) l s = (withS s l.a (withinS (targetS n) l ((fieldS s l.a).getD zeroS)).1, (withinS (targetS n) l ((fieldS s l.a).getD zeroS)).2 && rightS 5 (withS s l.a (withinS (targetS n) l ((fieldS s l.a).getD zeroS)).1)) := by rw [targetS, if_pos ⟨k5, hr5⟩, if_neg kk, if_pos hf]
        have hiw := withinS_wt hl (by omega) hd ha hA.1
        (simp (disch := first | decide | omega | (simp only [nx]; first | done | omega)) only [go_sem, tupS, b1, hf]; (repeat with_reducible refine aI ?_))
        rw [aggL_fold]
        refine DCalls.of_pure (within_d n d k l _ hl (by omega) (by omega) ha hA.1 fun k' x d' s' h1 h2 h3 h4 => ih k' x d' s' h1 (by omega) h3 h4) ?_
        generalize withinS (targetS n) l ((fieldS s l.a).getD zeroS) = r at he hiw ⊢
        have hr1 : r.1.weight ≤ 100000 := by have := hiw.2; have := wB_le4 (d := d) (by omega); unfold tB at *; omega
        (simp (disch := first | decide | omega | (simp only [nx]; first | done | omega)) only [go_sem, tupBs]; (repeat with_reducible refine aI ?_))
        refine DCalls.of_pure (withS_d s r.1 l.a hsk hiw.1 (by omega) hr1 ho.2.1) ?_
        have hbw := withS_wt (x := l.a) hsw (⟨hiw.1, hr1⟩ : Wt r.1 100000) ho.2.1 (by omega)
        (simp (disch := first | decide | omega | (simp only [nx]; first | done | omega)) only [go_sem]; (repeat with_reducible refine aI ?_))
        refine ddraw_any (fun S' => S'.ob (S.next + 1 + 1 + 1 + 1 + 1) = some (.box 25 (encS (withS s l.a r.1)).cells)) 8 (by (first | (simp (disch := first | decide | omega | (simp only [nx]; first | done | omega)) only [go_sem]; first | done | rfl) | rfl)) (by kernel_rfl) ?_
        (refine s_take 0 rfl (by kernel_rfl) (by kernel_rfl) (v := ?v10) (fun S' hz => dquietR_of ?h10) <| s_take 1 rfl (by kernel_rfl) (by kernel_rfl) (v := ?v11) (fun S' hz => dquietR_of ?h11) <| s_take 2 rfl (by kernel_rfl) (by kernel_rfl) (v := ?v12) (fun S' hz => dquietR_of ?h12) <| ?k12; (case h10 | h11 | h12 => ((simp (disch := first | decide | omega | (simp only [nx]; first | done | omega)) only [go_sem, hz, hz]; (repeat with_reducible refine aI ?_)); first | done | exact rfl | omega)))
        cases h2 : r.2 with
        | false =>
          (refine s_skipG 3 rfl rfl rfl (by first | (left; (first | (simp (disch := first | decide | omega | (simp only [nx]; first | done | omega)) only [go_sem, h2]; first | done | rfl) | rfl); done) | (right; (first | (simp (disch := first | decide | omega | (simp only [nx]; first | done | omega)) only [go_sem, h2]; first | done | rfl) | rfl); done)) (by kernel_rfl) (by kernel_rfl) ?_; refine s_skipG 4 rfl rfl rfl (by first | (left; (first | (simp (disch := first | decide | omega | (simp only [nx]; first | done | omega)) only [go_sem, h2]; first | done | rfl) | rfl); done) | (right; (first | (simp (disch := first | decide | omega | (simp only [nx]; first | done | omega)) only [go_sem, h2]; first | done | rfl) | rfl); done)) (by kernel_rfl) (by kernel_rfl) ?_)
          (refine s_take 5 rfl (by kernel_rfl) (by kernel_rfl) (v := ?v13) (fun S' hz => dquietR_of ?h13) ?k13; (case h13 => ((simp (disch := first | decide | omega | (simp only [nx]; first | done | omega)) only [go_sem, h2, hz]; (repeat with_reducible refine aI ?_)); first | done | exact rfl | omega)))
          (refine s_split [6] (by kernel_rfl) (by simp) ?_; intro j_ hj_; obtain rfl : j_ = 6 := (by simpa using hj_); clear hj_; refine s_op rfl ?_; (simp (disch := first | decide | omega | (simp only [nx]; first | done | omega)) only [go_sem]; (repeat with_reducible refine aI ?_)))
          (refine s_take 7 rfl (by kernel_rfl) (by kernel_rfl) (v := ?v14) (fun S' hz => dquietR_of ?h14) ?k14; (case h14 => ((simp (disch := first | decide | omega | (simp only [nx]; first | done | omega)) only [go_sem, hz]; (repeat with_reducible refine aI ?_)); first | done | exact rfl | omega)))
          (refine s_done (by kernel_rfl) ?_; (simp (disch := first | decide | omega | (simp only [nx]; first | done | omega)) only [go_sem]; (repeat with_reducible refine aI ?_)))
          refine ⟨?_, (by (repeat' first | assumption | exact St.Sub.refl _ | exact RowOk.sub (by assumption) (by assumption) | refine St.Sub.trans ?_ (RowOk.sub (by assumption) (by assumption)) | refine St.Sub.add ?_ ?_ _ | refine St.Sub.set ?_ ?_ ?_ _ | refine St.Sub.keep ?_ ?_ | refine St.WF.leave ?_ _ | refine St.WF.add ?_ _ | refine St.WF.set ?_ ?_ _ | refine St.WF.grow ?_ _ _ _ | refine St.WF.keep ?_ ?_ | (first | omega | (simp only [RowOk.lo, nx]; first | done | omega))))⟩
          exact fin he (by rw [h2]; rfl) (frz_encS _)
        | true =>
          (refine s_takeG 3 rfl rfl rfl (by (first | (simp (disch := first | decide | omega | (simp only [nx]; first | done | omega)) only [go_sem, h2, hz]; first | done | rfl) | rfl)) (by kernel_rfl) (by kernel_rfl) (v := ?v15) (fun S' hz => dquietR_of ?h15) ?k15; (case h15 => ((simp (disch := first | decide | omega | (simp only [nx]; first | done | omega)) only [go_sem, h2, hz, hz]; (repeat with_reducible refine aI ?_)); first | done | exact rfl | omega)))
          (refine s_takeG 4 rfl rfl rfl (by (first | (simp (disch := first | decide | omega | (simp only [nx]; first | done | omega)) only [go_sem, h2]; first | done | rfl) | rfl)) (by kernel_rfl) (by kernel_rfl) (v := ?v16) (fun S' hz => dquietR_of ?h16) ?k16; (case h16 => ((simp (disch := first | decide | omega | (simp only [nx]; first | done | omega)) only [go_sem, h2, hz]; (repeat with_reducible refine aI ?_)); refine dqgo_mk (schRight_d _ hbw.1) ?_; exact rfl)))
          (refine s_take 5 rfl (by kernel_rfl) (by kernel_rfl) (v := ?v17) (fun S' hz => dquietR_of ?h17) ?k17; (case h17 => ((simp (disch := first | decide | omega | (simp only [nx]; first | done | omega)) only [go_sem, h2, hz]; (repeat with_reducible refine aI ?_)); first | done | exact rfl | omega)))
          (refine s_split [6] (by kernel_rfl) (by simp) ?_; intro j_ hj_; obtain rfl : j_ = 6 := (by simpa using hj_); clear hj_; refine s_op rfl ?_; (simp (disch := first | decide | omega | (simp only [nx]; first | done | omega)) only [go_sem]; (repeat with_reducible refine aI ?_)))
          (refine s_take 7 rfl (by kernel_rfl) (by kernel_rfl) (v := ?v18) (fun S' hz => dquietR_of ?h18) ?k18; (case h18 => ((simp (disch := first | decide | omega | (simp only [nx]; first | done | omega)) only [go_sem, hz]; (repeat with_reducible refine aI ?_)); first | done | exact rfl | omega)))
          (refine s_done (by kernel_rfl) ?_; (simp (disch := first | decide | omega | (simp only [nx]; first | done | omega)) only [go_sem]; (repeat with_reducible refine aI ?_)))
          refine ⟨?_, (by (repeat' first | assumption | exact St.Sub.refl _ | exact RowOk.sub (by assumption) (by assumption) | refine St.Sub.trans ?_ (RowOk.sub (by assumption) (by assumption)) | refine St.Sub.add ?_ ?_ _ | refine St.Sub.set ?_ ?_ ?_ _ | refine St.Sub.keep ?_ ?_ | refine St.WF.leave ?_ _ | refine St.WF.add ?_ _ | refine St.WF.set ?_ ?_ _ | refine St.WF.grow ?_ _ _ _ | refine St.WF.keep ?_ ?_ | (first | omega | (simp only [RowOk.lo, nx]; first | done | omega))))⟩
          exact fin he (by rw [h2]; rfl) (frz_encS _)
noncomputable def tgS (l : DLens) (s : DSch) : DSch × Int :=
  if rightL 5 l = true then (if (targetS 5 l s).2 = true then ((targetS 5 l s).1, 0) else (zeroS, 13)) else (zeroS, 1)
theorem erO'_cl (n : Int) : (erO' n).closed := by
  unfold erO'
  split <;> simp [D.closed, D.all, erD']
theorem Target_d (k : Nat) (l : DLens) (d : Nat) (s : DSch) (hk : roomL k l = true) (hok : okL l) (hd : d ≤ 5) (hr : rightS d s = true) (hsk : okS s) :
    DPure Tryz.prog 42 [encL l, encS s] (.tup [encS (tgS l s).1, erO' (tgS l s).2]) := by
  have fin : ∀ {y e : D} {r : DSch × Int}, y.frz = encS r.1 → e.frz = erO' r.2 → (D.tup [y, e]).frz = .tup [encS r.1, erO' r.2] := fun h h2 => by simp only [D.frz, frzL, h, h2]
  refine dpure_of_dwp mixed Tryz.func42 rfl (fun _ _ => by kernel_rfl) (rs := [.cell 4 25, .tmp 5]) rfl (by kernel_rfl) (by simp only [D.closed, D.all, allL, and_true]; exact ⟨closed_encS _, erO'_cl _⟩) (fun S hS => ?_)
  (simp (disch := first | decide | omega | (simp only [nx]; first | done | omega)) only [go_sem]; (repeat with_reducible refine aI ?_))
  refine DCalls.of_pure (lensRight_d k l hk hok) ?_
  cases h1 : rightL 5 l with
  | false =>
    have he : tgS l s = (zeroS, 1) := by rw [tgS, if_neg (by rw [h1]; decide)]
    (simp (disch := first | decide | omega | (simp only [nx]; first | done | omega)) only [go_sem]; (repeat with_reducible refine aI ?_))
    refine ⟨?_, (by (repeat' first | assumption | exact St.Sub.refl _ | exact RowOk.sub (by assumption) (by assumption) | refine St.Sub.trans ?_ (RowOk.sub (by assumption) (by assumption)) | refine St.Sub.add ?_ ?_ _ | refine St.Sub.set ?_ ?_ ?_ _ | refine St.Sub.keep ?_ ?_ | refine St.WF.leave ?_ _ | refine St.WF.add ?_ _ | refine St.WF.set ?_ ?_ _ | refine St.WF.grow ?_ _ _ _ | refine St.WF.keep ?_ ?_ | (first | omega | (simp only [RowOk.lo, nx]; first | done | omega))))⟩
    rw [he]
    exact fin (r := (zeroS, 1)) (by rw [encS_eq zeroS]; rfl) rfl
  | true =>
    (simp (disch := first | decide | omega | (simp only [nx]; first | done | omega)) only [go_sem]; (repeat with_reducible refine aI ?_))
    refine DCalls.of_pure (target_d 5 k l d s ⟨hk, hok, h1⟩ hd hr hsk) ?_
    have hw := targetS_wt 5 d k l s ⟨hk, hok, h1⟩ hd hr hsk
    cases h2 : (targetS 5 l s).2 with
    | false =>
      have he : tgS l s = (zeroS, 13) := by rw [tgS, if_pos h1, if_neg (by rw [h2]; decide)]
      (simp (disch := first | decide | omega | (simp only [nx]; first | done | omega)) only [go_sem, tupBs, h2]; (repeat with_reducible refine aI ?_))
      refine ⟨?_, (by (repeat' first | assumption | exact St.Sub.refl _ | exact RowOk.sub (by assumption) (by assumption) | refine St.Sub.trans ?_ (RowOk.sub (by assumption) (by assumption)) | refine St.Sub.add ?_ ?_ _ | refine St.Sub.set ?_ ?_ ?_ _ | refine St.Sub.keep ?_ ?_ | refine St.WF.leave ?_ _ | refine St.WF.add ?_ _ | refine St.WF.set ?_ ?_ _ | refine St.WF.grow ?_ _ _ _ | refine St.WF.keep ?_ ?_ | (first | omega | (simp only [RowOk.lo, nx]; first | done | omega))))⟩
      rw [he]
      exact fin (r := (zeroS, 13)) (by rw [encS_eq zeroS]; rfl) rfl
    | true =>
      have he : tgS l s = ((targetS 5 l s).1, 0) := by rw [tgS, if_pos h1, if_pos h2]
      (simp (disch := first | decide | omega | (simp only [nx]; first | done | omega)) only [go_sem, tupBs, h2]; (repeat with_reducible refine aI ?_))
      refine DCalls.of_pure (schCopy_d _ hw.1 (by have := hw.2; have := wB_le5 hd; unfold tB at *; omega)) ?_
      (simp (disch := first | decide | omega | (simp only [nx]; first | done | omega)) only [go_sem]; (repeat with_reducible refine aI ?_))
      refine ⟨?_, (by (repeat' first | assumption | exact St.Sub.refl _ | exact RowOk.sub (by assumption) (by assumption) | refine St.Sub.trans ?_ (RowOk.sub (by assumption) (by assumption)) | refine St.Sub.add ?_ ?_ _ | refine St.Sub.set ?_ ?_ ?_ _ | refine St.Sub.keep ?_ ?_ | refine St.WF.leave ?_ _ | refine St.WF.add ?_ _ | refine St.WF.set ?_ ?_ _ | refine St.WF.grow ?_ _ _ _ | refine St.WF.keep ?_ ?_ | (first | omega | (simp only [RowOk.lo, nx]; first | done | omega))))⟩
      rw [he]
      exact fin (r := ((targetS 5 l s).1, 0)) (frz_encS _) rfl
theorem tgS_right {l : DLens} {s : DSch} (h : (tgS l s).2 = 0) : rightS 5 (tgS l s).1 = true := by
  unfold tgS at h ⊢
  split at h
  · rename_i h1
    split at h
    · rename_i h2
      rw [if_pos h1, if_pos h2]
      show rightS 5 (targetS 5 l s).1 = true
      unfold targetS at h2 ⊢
      split at h2
      · rename_i h3
        rw [if_pos h3]
        split at h2
        · rename_i h4
          rw [if_pos h4]
          simp only [Bool.and_eq_true] at h2
          exact h2.2
        · rename_i h4
          rw [if_neg h4]
          split at h2
          · rename_i h5
            rw [if_pos h5]
            simp only [Bool.and_eq_true] at h2
            exact h2.2
          · cases h2
      · cases h2
    · cases h
  · cases h
end
end Go.Proofs.YtogbklnkpjjkoaaGreatDoor

namespace Go.Proofs.YtogbklnkpjjkoaaGreatDoor
open Go.RowKit
structure OkR (vs : List DVer) : Prop where
  wf : WfR vs
  pos : 0 < vs.length
  sch : ∀ v ∈ vs, okS v.sch ∧ rightS 5 v.sch = true
  lens : ∀ v ∈ vs, okL v.lens ∧ roomL 8 v.lens = true
theorem tgS_ok {k : Nat} {l : DLens} {s : DSch} (hk : roomL k l = true) (hok : okL l) (hr : rightS 5 s = true) (hsk : okS s) : okS (tgS l s).1 := by
  unfold tgS
  split
  · rename_i h1
    split
    · exact (targetS_wt 5 5 k l s ⟨hk, hok, h1⟩ (Nat.le_refl _) hr hsk).1
    · exact zeroS_ok
  · exact zeroS_ok
theorem okR_root {root : H32} {s : DSch} (hs : okS s) (hr : rightS 5 s = true) : OkR [rootV root s] :=
  ⟨wfR_root root s, Nat.one_pos, fun v hv => by obtain rfl := List.mem_singleton.1 hv; exact ⟨hs, hr⟩, fun v hv => by obtain rfl := List.mem_singleton.1 hv; exact ⟨okL_zero, show roomL 8 zeroL = true by decide⟩⟩
theorem wfR_snoc {vs : List DVer} {v : DVer} (h : WfR vs) (hn : findR vs v.name = none) (h0 : 0 ≤ v.up) (h1 : v.up < (vs.length : Int)) : WfR (vs ++ [v]) := by
  refine ⟨fun i hi => ?_, ?_⟩
  · by_cases hl : i < vs.length
    · rw [upOf_snoc hl]; exact h.up i hl
    · obtain rfl : i = vs.length := by simp only [List.length_append, List.length_singleton] at hi; omega
      rw [upOf_last]
      exact ⟨fun e => by omega, fun _ => ⟨h0, h1⟩⟩
  · rw [List.map_append, List.nodup_append]
    refine ⟨h.nodup, by simp, fun x hx y hy e => ?_⟩
    obtain rfl := List.mem_singleton.1 hy
    obtain ⟨i, hi, rfl⟩ := List.getElem_of_mem hx
    rw [List.getElem_map] at e
    exact findR_none hn i (by simpa using hi) e
theorem addR_cases (vs : List DVer) (name from_ : H32) (l : DLens) (tg : DSch → DSch × Int) :
    ((addR vs name from_ l tg).1 = vs ∧ (addR vs name from_ l tg).2 ≠ 0) ∨ ∃ k, ∃ hk : k < vs.length, findR vs from_ = some k ∧ findR vs name = none ∧ (tg vs[k].sch).2 = 0 ∧ addR vs name from_ l tg = (vs ++ [⟨name, (k : Int), l, (tg vs[k].sch).1⟩], 0) := by
  unfold addR
  cases hf : findR vs from_ with
  | none => exact .inl ⟨rfl, show (7 : Int) ≠ 0 by decide⟩
  | some k =>
    obtain ⟨hk, _⟩ := findR_some hf
    have e : (vs[k]?.map (·.sch)).getD zeroS = vs[k].sch := by simp [hk]
    simp only [e]
    by_cases h1 : (findR vs name).isSome = true
    · rw [if_pos h1]; exact .inl ⟨rfl, show (8 : Int) ≠ 0 by decide⟩
    · rw [if_neg h1]
      by_cases h2 : (tg vs[k].sch).2 ≠ 0
      · rw [if_pos h2]; exact .inl ⟨rfl, h2⟩
      · rw [if_neg h2]
        exact .inr ⟨k, hk, rfl, by simpa using h1, by simpa using h2, rfl⟩
theorem addR_ok {vs : List DVer} (h : OkR vs) (name from_ : H32) (l : DLens) (hl : okL l) (hr : roomL 8 l = true) : OkR (addR vs name from_ l (tgS l)).1 := by
  rcases addR_cases vs name from_ l (tgS l) with ⟨e, _⟩ | ⟨k, hk, hf, hn, ht, e⟩
  · rw [e]; exact h
  · rw [e]
    have hs := h.sch _ (List.getElem_mem hk)
    refine ⟨wfR_snoc h.wf hn (by show (0 : Int) ≤ (k : Int); omega) (by show (k : Int) < _; omega), by simp, fun v hv => ?_, fun v hv => ?_⟩
    · rcases List.mem_append.1 hv with hv | hv
      · exact h.sch v hv
      · obtain rfl := List.mem_singleton.1 hv
        exact ⟨tgS_ok hr hl hs.2 hs.1, tgS_right ht⟩
    · rcases List.mem_append.1 hv with hv | hv
      · exact h.lens v hv
      · obtain rfl := List.mem_singleton.1 hv
        exact ⟨hl, hr⟩
theorem add_d {S : St} {k : Nat} {F : Nat → Prop} {vs : List DVer} (hr : RegAt k F vs S) (hw : OkR vs) (hl : vs.length ≤ 1000000) (name from_ : H32) (l : DLens) (hrm : roomL 8 l = true) (hok : okL l) :
    DCalls Tryz.prog 20 [.loc k 0, encH name, encH from_, encL l] S (fun d T => d = erO' (addR vs name from_ l (tgS l)).2 ∧ ∃ F', RegAt k F' (addR vs name from_ l (tgS l)).1 T ∧ (∀ q, F' q → F q ∨ S.next ≤ q) ∧ FrN F S T) :=
  add_at hr hw.wf hw.pos hl name from_ l hrm hok (tgS l) fun i hi => Target_d 8 l 5 _ hrm hok (Nat.le_refl _) (hw.sch _ (List.getElem_mem hi)).2 (hw.sch _ (List.getElem_mem hi)).1
/-! The document's example. -/
def rgH (x : UInt8) : H32 := ⟨x :: List.replicate 31 0, rfl⟩
def awS : DSch := .mk 5 [[97]] [.mk 2 [] []]
def awL : DLens := .mk 6 [97] [] zeroS zeroV0 zeroV0 [] []
def awT : DSch := .mk 5 [[97]] [.mk 6 [] [.mk 2 [] []]]
def aw0 : List DVer := [rootV (rgH 1) awS]
def aw1 : List DVer := aw0 ++ [⟨rgH 2, 0, awL, awT⟩]
def aw2 : List DVer := aw1 ++ [⟨rgH 3, 0, awL, awT⟩]
theorem eqB_self {α : Type} (a : α) : eqB a a = true := by simp [eqB]
theorem aw_right : rightL 5 awL = true := by
  have h0 : zeroB (uB 6) (uT 6) (uK 6) (uI 6) awL = true := by
    simp only [zeroB, awL, DLens.b, DLens.typ, DLens.base, DLens.back, DLens.pairs, DLens.inner, eqB_self]
    rfl
  have h1 : headL awL = true := by
    have h0' : zeroB (uB awL.kind) (uT awL.kind) (uK awL.kind) (uI awL.kind) awL = true := h0
    have hn : nameB awL.a = true := by decide
    rw [headL, h0', hn]
    rfl
  rw [rightL, h1]
  rfl
theorem aw_rS : rightS 5 awS = true := by decide
theorem aw_rT : rightS 5 awT = true := by decide
theorem aw_tg : tgS awL awS = (awT, 0) := by
  have hw : withinS (targetS 4) awL (.mk 2 [] []) = (.mk 6 [] [.mk 2 [] []], true) := by rw [withinS, if_pos (show awL.kind = 6 from rfl)]
  have ht : targetS 5 awL awS = (awT, true) := by
    rw [targetS, if_pos ⟨rfl, aw_rS⟩, if_neg (by decide)]
    have hf : fieldS awS awL.a = some (.mk 2 [] []) := rfl
    rw [hf]
    simp only [Option.isSome_some, if_true, Option.getD_some, hw]
    rw [show withS awS awL.a (.mk 6 [] [.mk 2 [] []]) = awT from rfl, aw_rT]
    rfl
  rw [tgS, if_pos aw_right, ht, if_pos rfl]
theorem aw_add1 : addR aw0 (rgH 2) (rgH 1) awL (tgS awL) = (aw1, 0) := by
  have h1 : findR aw0 (rgH 1) = some 0 := by decide
  have h2 : findR aw0 (rgH 2) = none := by decide
  have h3 : (aw0[0]?.map (·.sch)).getD zeroS = awS := rfl
  simp only [addR, h1, h2, h3, aw_tg]
  rfl
theorem aw_add2 : addR aw1 (rgH 3) (rgH 1) awL (tgS awL) = (aw2, 0) := by
  have h1 : findR aw1 (rgH 1) = some 0 := by decide
  have h2 : findR aw1 (rgH 3) = none := by decide
  have h3 : (aw1[0]?.map (·.sch)).getD zeroS = awS := rfl
  simp only [addR, h1, h2, h3, aw_tg]
  rfl
theorem aw_findA : findR aw2 (rgH 2) = some 1 := by decide
theorem aw_findB : findR aw2 (rgH 3) = some 2 := by decide
theorem aw_out1 : outW aw2 1 = [(1, 0), (0, 2)] := by decide
theorem aw_out2 : outW aw2 2 = [(2, 0), (0, 1)] := by decide
def awF (i : Nat) : Nat := [1, 0, 2].getD i 0
theorem aw_f : ∀ i, i < 2 → awF i ≠ 2 ∧ awF i < aw2.length ∧ (befN aw2.length (outW aw2 2)).getD (awF i) 0 = awF (i + 1) := by
  rw [aw_out2]
  intro i hi
  have : i = 0 ∨ i = 1 := by omega
  rcases this with rfl | rfl <;> decide
theorem aw_pth : pthN aw2 awF 2 = [rgH 2, rgH 1, rgH 3] := by rfl
theorem awS_ok : okS awS := by
  simp only [awS, okS, okSs, I64, List.not_mem_nil, false_implies, implies_true, true_and, and_true]
  decide
theorem awL_ok : okL awL := by
  simp only [awL, zeroS, zeroV0, okL, okLs, okS, okSs, okV, okVs, I64, List.not_mem_nil, false_implies, implies_true, true_and, and_true]
  decide
theorem awL_room : roomL 8 awL = true := by decide
end Go.Proofs.YtogbklnkpjjkoaaGreatDoor

namespace Go.Proofs.YtogbklnkpjjkoaaGreatDoor
open Go.RowKit
section
variable {P : Program} {w : World} {η : Names} {X X' : Nat → Nat → Prop}
end
theorem dpure_nil {P : Program} {g : FuncId} {args : List D} {x : Value} (hc : allL (fun _ => False) args) (h : DAt P g args St.nil (.v x)) : DPure P g args (.v x) := fun S base η w vs hM hr => by
  have hg : GlobOk w.heap.size w := fun p hp => ⟨Nat.lt_of_lt_of_le (hM.glob p hp).1 hM.base_, (hM.glob p hp).2⟩
  have K : Keep (fun _ => False) w η (Fix P S η) w (fun _ => none) (Fix P St.nil fun _ => none) := ⟨Nat.le_refl _, fun b i _ _ => ⟨fix_nil b i, rfl⟩, fun _ _ h => h.elim, fun _ cur _ h => ⟨cur, h, rfl⟩⟩
  rcases h w.heap.size _ w vs (mem_nil w hg) (RepL.keep K hc hr) with ⟨h1, k⟩ | ⟨d, S', η', u, w', k, ⟨rfl, _⟩, h3, h4⟩
  · refine .inl ⟨h1, k.mono fun _ _ ⟨d, S', η', u, ⟨h1, _⟩, h2, h3, h4⟩ => ?_⟩
    subst h1
    simp only [Rep] at h3
    subst h3
    exact ⟨.v _, S, η, _, ⟨rfl, rfl⟩, h2, by simp only [Rep], goes_below hM h4.below h4.drawn⟩
  · simp only [Rep] at h3
    subst h3
    exact .inr ⟨.v _, S, η, _, w', k, ⟨rfl, rfl⟩, by simp only [Rep], goes_below hM h4.below h4.drawn⟩
end Go.Proofs.YtogbklnkpjjkoaaGreatDoor

namespace Go.Proofs.YtogbklnkpjjkoaaGreatDoor
open Go.RowKit
theorem placeR : placeT Tryz.prog 39 = some fun i => some (i * 1, 1) := by kernel_rfl
theorem rnil_ne (k : Nat) : dbin Tryz.prog .neq 66 (.tmp k) (.const .nilIface) (.v .nilIface) (.v .nilIface) = some (True, .v (.bool false)) := by kernel_rfl
theorem rnil_eq (k : Nat) : dbin Tryz.prog .eql 66 (.tmp k) (.const .nilIface) (.v .nilIface) (.v .nilIface) = some (True, .v (.bool true)) := by kernel_rfl
theorem dcalls_argEq {P : Program} {g : FuncId} {args args' : List D} {S : St} {K : D → St → Prop} (e : frzL args = args') (h : DCalls P g args' S K) : DCalls P g args S K := dcalls_argfz (e ▸ h)
abbrev DEd := H32 × H32 × Bool
def edVs (e : DEd) : List Value := e.1.1.map bV ++ (e.2.1.1.map bV ++ [.bool e.2.2])
def encEd (e : DEd) : D := .agg (e.1.1.map bD ++ (e.2.1.1.map bD ++ [.v (.bool e.2.2)]))
theorem vals_appL : ∀ (a : List UInt8) {b : List D} {vs : List Value}, vals b = some vs → vals (a.map bD ++ b) = some (a.map bV ++ vs)
  | [], b, vs, h => h
  | x :: a, b, vs, h => by
    have := vals_appL a h
    simp only [List.map_cons, List.cons_append]
    simp [vals, bD, bV, this] at this ⊢
    try rw [this]
theorem vals_ed (e : DEd) : vals (e.1.1.map bD ++ (e.2.1.1.map bD ++ [.v (.bool e.2.2)])) = some (edVs e) := vals_appL _ (vals_appL _ rfl)
theorem valsEq_app : ∀ {a b : List Value} {c d : List Value}, a.length = b.length → valsEq (a ++ c) (b ++ d) = (valsEq a b && valsEq c d)
  | [], [], c, d, _ => by simp [valsEq]
  | [], _ :: _, _, _, h => by simp at h
  | _ :: _, [], _, _, h => by simp at h
  | x :: a, y :: b, c, d, h => by
    have ih := valsEq_app (a := a) (b := b) (c := c) (d := d) (by simpa using h)
    simp only [List.cons_append, valsEq, ih, Bool.and_assoc]
theorem valsEq_ed (a b : DEd) : valsEq (edVs a) (edVs b) = decide (a = b) := by
  obtain ⟨a1, a2, a3⟩ := a
  obtain ⟨b1, b2, b3⟩ := b
  have h1 : (a1.1.map bV).length = (b1.1.map bV).length := by rw [List.length_map, List.length_map, a1.2, b1.2]
  have h2 : (a2.1.map bV).length = (b2.1.map bV).length := by rw [List.length_map, List.length_map, a2.2, b2.2]
  simp only [edVs]
  rw [valsEq_app h1, valsEq_app h2, valsEq_hash, valsEq_hash]
  rw [Bool.eq_iff_iff]
  simp [valsEq, cellEq]
theorem part_e1 (m : DEd) (w : World) : (part 39 (edVs m).toArray 0).run Tryz.prog w = .ok (.agg (m.1.1.map bV).toArray) w := by
  have h : (isAgg 39).run Tryz.prog w = .ok true w := by kernel_rfl
  have h2 : (Go.sizeOf 39).run Tryz.prog w = .ok 32 w := by kernel_rfl
  simp [part, Sem.run_bind, h, h2]
  rw [edVs, List.take_append_of_le_length (by rw [List.length_map, m.1.2]; omega), List.take_of_length_le (by rw [List.length_map, m.1.2]; omega)]
theorem part_e2 (m : DEd) (w : World) : (part 39 (edVs m).toArray 32).run Tryz.prog w = .ok (.agg (m.2.1.1.map bV).toArray) w := by
  have h : (isAgg 39).run Tryz.prog w = .ok true w := by kernel_rfl
  have h2 : (Go.sizeOf 39).run Tryz.prog w = .ok 32 w := by kernel_rfl
  have l1 := m.1.2
  have l2 := m.2.1.2
  simp [part, Sem.run_bind, h, h2]
  rw [edVs, List.drop_append, List.drop_of_length_le (by rw [List.length_map]; omega), List.length_map, l1, List.nil_append, Nat.sub_self, List.drop_zero, List.take_append_of_le_length (by rw [List.length_map]; omega), List.take_of_length_le (by rw [List.length_map]; omega)]
theorem part_e3 (m : DEd) (w : World) : (part 4 (edVs m).toArray 64).run Tryz.prog w = .ok (.bool m.2.2) w := by
  have h : (isAgg 4).run Tryz.prog w = .ok false w := by kernel_rfl
  have l1 := m.1.2
  have l2 := m.2.1.2
  have e : (List.map bV m.fst.val ++ (List.map bV m.snd.fst.val ++ [Value.bool m.snd.snd]))[64]? = some (Value.bool m.snd.snd) := by
    rw [List.getElem?_append_right (by rw [List.length_map]; omega), List.getElem?_append_right (by rw [List.length_map, List.length_map]; omega), List.length_map, List.length_map, l1, l2]
    rfl
  simp [part, Sem.run_bind, h, edVs, e]
theorem equalIn_ed (a b : DEd) (w : World) : (Op.equalIn 10000 59 (.agg (edVs a).toArray) (.agg (edVs b).toArray)).run Tryz.prog w = .ok (decide (a = b)) w := by
  rw [run_equalIn_agg w 9999 59 _ _ (by kernel_rfl) (by kernel_rfl)]
  have hf : (Tryz.prog.fieldsOf 59).toList.map (fun f => (f.type, f.offset, decide (f.name ≠ "_"))) = [(39, 0, true), (39, 32, true), (4, 64, true)] := by kernel_rfl
  generalize (Tryz.prog.fieldsOf 59).toList = fs at hf ⊢
  have hl : fs.length = 3 := by simpa using congrArg List.length hf
  match fs, hl with
  | [f, g, h], _ =>
    simp only [List.map_cons, List.map_nil, List.cons.injEq, Prod.mk.injEq, and_true] at hf
    obtain ⟨⟨f1, f2, f3⟩, ⟨g1, g2, g3⟩, h1, h2, h3⟩ := hf
    have f3' := of_decide_eq_true f3
    have g3' := of_decide_eq_true g3
    have h3' := of_decide_eq_true h3
    simp only [Op.eqFields, f3', g3', h3', Sem.run_bind, Sem.run_ite, f1, f2, g1, g2, h1, h2, part_e1, part_e2, part_e3, Result.andThen_ok, run_equalIn_bool w 9998 4 _ _ Tryz.underlying4, equalIn_hash 9997, ne_eq, not_false_eq_true, if_true]
    obtain ⟨a1, a2, a3⟩ := a
    obtain ⟨b1, b2, b3⟩ := b
    by_cases e1 : a1 = b1
    · subst e1
      by_cases e2 : a2 = b2
      · subst e2
        by_cases e3 : a3 = b3
        · subst e3; simp
        · simp [e3]
      · simp [e2]
    · simp [e1]
theorem eqOk_ed {x y : Operand} (a b : DEd) : EqOk Tryz.prog .eql 59 x y (edVs a) (edVs b) (decide (a = b)) ∧ EqOk Tryz.prog .neq 59 x y (edVs a) (edVs b) (!decide (a = b)) := by
  constructor <;> intro w
  · rw [Sem.run_bind, run_eqGuard_agg w _ _ _ _ _ _ (by kernel_rfl), Result.andThen_ok, run_eql_struct, equalIn_ed a b w, Result.andThen_ok]
  · rw [Sem.run_bind, run_eqGuard_agg w _ _ _ _ _ _ (by kernel_rfl), Result.andThen_ok, run_neq_struct, equalIn_ed a b w, Result.andThen_ok]
theorem bin_eqE {x y : Operand} (a b : DEd) : dbin Tryz.prog .eql 59 x y (encEd a) (encEd b) = some (EqOk Tryz.prog .eql 59 x y (edVs a) (edVs b) (decide (a = b)), .v (.bool (decide (a = b)))) := by
  simp only [dbin, encEd, vals_ed, dbinA, valsEq_ed]
theorem onVal_eqE {x y : Operand} {K : D → Prop} (a b : DEd) : onVal (dbin Tryz.prog .eql 59 x y (encEd a) (encEd b)) K = K (.v (.bool (decide (a = b)))) := by
  rw [bin_eqE, onVal_some]; exact propext ⟨fun h => h.2, fun h => ⟨(eqOk_ed a b).1, h⟩⟩
theorem onVal_eE {x y : Operand} {K : D → Prop} {p q : D} (a b : DEd) (hp : p = encEd a) (hq : q = encEd b) (k : K (.v (.bool (decide (a = b))))) : onVal (dbin Tryz.prog .eql 59 x y p q) K := by
  rw [hp, hq, onVal_eqE]; exact k
section
set_option maxRecDepth 200000
set_option maxHeartbeats 8000000
theorem awake20_d : DPure Tryz.prog 10 [] (.v (.bool true)) := by
  refine dpure_nil (by trivial) (dat_of_dwpL mixed Tryz.func10 rfl (fun _ _ => by kernel_rfl) (rs := [.tmp 0]) rfl (by kernel_rfl) (by trivial) (fun hS => ?_))
  (simp (disch := first | decide | omega | (simp only [nx]; first | done | omega)) only [go_sem, placeR]; (repeat with_reducible refine aI ?_))
  generalize hX : St.set (St.set (St.set (St.add (St.add (St.add (St.set (St.add St.nil _) _ _) _) _) _) _ _) _ _) _ _ = S1
  have hn1 : S1.next = St.nil.next + 4 := by rw [← hX]; rfl
  have hW1 : S1.WF := by rw [← hX]; exact (by (repeat' first | assumption | refine St.WF.leave ?_ _ | refine St.WF.add ?_ _ | refine St.WF.set ?_ ?_ _ | refine St.WF.grow ?_ _ _ _ | refine St.WF.keep ?_ ?_ | (first | omega | (simp only [RowOk.lo, nx]; first | done | omega))))
  have b1 : S1.ob (St.nil.next + 1) = some (.box 39 ((rgH 1).1.map bD)) := by rw [← hX]; (first | (simp (disch := first | decide | omega | (simp only [nx]; first | done | omega)) only [go_sem]; first | done | rfl) | rfl)
  have b2 : S1.ob (St.nil.next + 1 + 1) = some (.box 39 ((rgH 2).1.map bD)) := by rw [← hX]; (first | (simp (disch := first | decide | omega | (simp only [nx]; first | done | omega)) only [go_sem]; first | done | rfl) | rfl)
  have b3 : S1.ob (St.nil.next + 1 + 1 + 1) = some (.box 39 ((rgH 3).1.map bD)) := by rw [← hX]; (first | (simp (disch := first | decide | omega | (simp only [nx]; first | done | omega)) only [go_sem]; first | done | rfl) | rfl)
  clear hX
  have l1 := (rgH 1).2
  have l2 := (rgH 2).2
  have l3 := (rgH 3).2
  refine dcalls_argEq (args' := [encH (rgH 1), encS awS]) (by kernel_rfl) ?_
  refine DCalls.mono (DCalls.wf (new_a (rgH 1) awS awS_ok (by decide))) ?_
  rintro d T0 ⟨⟨hd, hs0⟩, hT0⟩
  rw [if_pos ⟨rfl, aw_rS⟩] at hd
  obtain ⟨k, F0, rfl, hr0, hF0⟩ := hd
  have b1 := hs0.ob _ _ b1
  have b2 := hs0.ob _ _ b2
  have b3 := hs0.ob _ _ b3
  (simp (disch := first | decide | omega | (simp only [nx]; first | done | omega)) only [go_sem, rnil_ne, b1, b2, b3, l1, l2, l3]; (repeat with_reducible refine aI ?_))
  have hn0 := hs0.next
  have w0 : OkR aw0 := okR_root awS_ok aw_rS
  have w1 : OkR aw1 := by have h := addR_ok w0 (rgH 2) (rgH 1) awL awL_ok awL_room; rw [aw_add1] at h; exact h
  have ez : erO' 0 = .v .nilIface := rfl
  refine dcalls_argEq (args' := [.loc k 0, encH (rgH 2), encH (rgH 1), encL awL]) (by kernel_rfl) ?_
  refine DCalls.mono (DCalls.wf (add_d hr0 w0 (by decide) (rgH 2) (rgH 1) awL awL_room awL_ok)) ?_
  rintro d T1 ⟨⟨rfl, F1, hr1, hF1, hfr1⟩, hT1⟩
  rw [show addR [rootV (rgH 1) awS] (rgH 2) (rgH 1) awL (tgS awL) = (aw1, 0) from aw_add1] at hr1 ⊢
  have b1 := hfr1.ob _ _ (fun h => by have := hF0 _ h; omega) b1
  have b2 := hfr1.ob _ _ (fun h => by have := hF0 _ h; omega) b2
  have b3 := hfr1.ob _ _ (fun h => by have := hF0 _ h; omega) b3
  have hF1' : ∀ q, F1 q → S1.next ≤ q := fun q h => by
    rcases hF1 q h with h | h
    · exact hF0 q h
    · omega
  have hn1' := hfr1.next
  (simp (disch := first | decide | omega | (simp only [nx]; first | done | omega)) only [go_sem, ez, b1, b2, b3, l1, l2, l3]; (repeat with_reducible refine aI ?_))
  refine dcalls_argEq (args' := [.loc k 0, encH (rgH 3), encH (rgH 1), encL awL]) (by kernel_rfl) ?_
  refine DCalls.mono (DCalls.wf (add_d hr1 w1 (by decide) (rgH 3) (rgH 1) awL awL_room awL_ok)) ?_
  rintro d T2 ⟨⟨rfl, F2, hr2, hF2, hfr2⟩, hT2⟩
  rw [aw_add2] at hr2 ⊢
  have b1 := hfr2.ob _ _ (fun h => by have := hF1' _ h; omega) b1
  have b2 := hfr2.ob _ _ (fun h => by have := hF1' _ h; omega) b2
  have b3 := hfr2.ob _ _ (fun h => by have := hF1' _ h; omega) b3
  (simp (disch := first | decide | omega | (simp only [nx]; first | done | omega)) only [go_sem, ez, b1, b2, b3, l1, l2, l3]; (repeat with_reducible refine aI ?_))
  refine DCalls.mono (DCalls.wf (path_at hr2 (by decide) aw_findA aw_findB 2 awF (by decide) rfl rfl aw_f)) ?_
  rintro d T3 ⟨⟨own3, rfl, hs3⟩, hT3⟩
  have b1 := hs3.ob _ _ b1
  have b2 := hs3.ob _ _ b2
  have b3 := hs3.ob _ _ b3
  have hr3 := hr2.sub hs3
  rw [aw_pth]
  (simp (disch := first | decide | omega | (simp only [nx]; first | done | omega)) only [go_sem, b1, b2, b3, l1, l2, l3]; (repeat with_reducible refine aI ?_))
  refine DCalls.mono (DCalls.wf (out_at hr3 (by decide) aw_findA)) ?_
  rintro d T4 ⟨⟨⟨own4, rfl⟩, hs4⟩, hT4⟩
  have b1 := hs4.ob _ _ b1
  have b2 := hs4.ob _ _ b2
  have b3 := hs4.ob _ _ b3
  rw [aw_out1]
  (simp (disch := first | decide | omega | (simp only [nx]; first | done | omega)) only [go_sem, b1, b2, b3, l1, l2, l3]; (repeat with_reducible refine aI ?_))
  refine ddraw_mk 41 (by kernel_rfl) ?_
  (simp (disch := first | decide | omega | (simp only [nx]; first | done | omega)) only [go_sem, rnil_eq, ez, b1, b2, b3, l1, l2, l3]; (repeat with_reducible refine aI ?_))
  refine dqgo_mk (hashes_d own3 .full [rgH 2, rgH 1, rgH 3] [rgH 2, rgH 1, rgH 3] (by decide)) ?_
  have c1 : decide (([rgH 2, rgH 1, rgH 3] : List H32) = [rgH 2, rgH 1, rgH 3]) = true := decide_eq_true rfl
  have c2 : (((2 : Nat) : Int) == 2) = true := by decide
  (simp (disch := first | decide | omega | (simp only [nx]; first | done | omega)) only [go_sem, c1, c2, rnil_eq, ez, b1, b2, b3, l1, l2, l3, List.map_cons, List.map_nil, List.length_cons, List.length_nil]; (repeat with_reducible refine aI ?_))
  refine ⟨⟨by decide, by kernel_rfl⟩, Nat.le_of_ble_eq_true (by kernel_rfl), Nat.le_of_ble_eq_true (by kernel_rfl), onVal_eE (rgH 2, rgH 1, false) (rgH 2, rgH 1, false) (by kernel_rfl) (by kernel_rfl) ?_⟩
  have c3 : decide (((rgH 2, rgH 1, false) : DEd) = (rgH 2, rgH 1, false)) = true := decide_eq_true rfl
  rw [c3]
  (simp (disch := first | decide | omega | (simp only [nx]; first | done | omega)) only [go_sem, c1, c2, rnil_eq, ez, b1, b2, b3, l1, l2, l3, List.map_cons, List.map_nil, List.length_cons, List.length_nil]; (repeat with_reducible refine aI ?_))
  refine ⟨⟨by decide, by decide, by kernel_rfl⟩, Nat.le_of_ble_eq_true (by kernel_rfl), ⟨Nat.le_of_ble_eq_true (by kernel_rfl), Nat.le_of_ble_eq_true (by kernel_rfl)⟩, onVal_eE (rgH 1, rgH 3, true) (rgH 1, rgH 3, true) (by kernel_rfl) (by kernel_rfl) ?_⟩
  have c4 : decide (((rgH 1, rgH 3, true) : DEd) = (rgH 1, rgH 3, true)) = true := decide_eq_true rfl
  rw [c4]
  (simp (disch := first | decide | omega | (simp only [nx]; first | done | omega)) only [go_sem]; (repeat with_reducible refine aI ?_))
  exact ⟨rfl, ⟨Nat.zero_le _, fun _ _ h => by cases h⟩⟩
end
end Go.Proofs.YtogbklnkpjjkoaaGreatDoor

namespace Go.Proofs.YtogbklnkpjjkoaaGreatDoor
open Go.RowKit Go.Extern.Stop Go.Stop Go.Extern
/-! The value that a tree without memory stands for. -/
mutual
def D.val : D → Option Value
  | .v x => some x
  | .ifc t d => (D.val d).map (Value.iface t ·)
  | .agg cs => (valL cs).bind fun vs => bif vs.all (·.oneCell') then some (.agg vs.toArray) else none
  | _ => none
def valL : List D → Option (List Value)
  | [] => some []
  | d :: l => (D.val d).bind fun x => (valL l).map (x :: ·)
end
section
variable {P : Program} {w : World} {η : Names} {X : Nat → Nat → Prop}
mutual
theorem rep_val_iff : ∀ {d : D} {x : Value}, D.val d = some x → ∀ {y : Value}, Rep P w η X d y ↔ y = x
  | .v x, _, h, y => by simp only [D.val, Option.some.injEq] at h; subst h; simp only [Rep]
  | .ifc t d, _, h, y => by
    simp only [D.val, Option.map_eq_some_iff] at h
    obtain ⟨z, h1, rfl⟩ := h
    simp only [Rep]
    constructor
    · rintro ⟨u, rfl, hu⟩
      rw [(rep_val_iff h1).1 hu]
    · rintro rfl
      exact ⟨z, rfl, (rep_val_iff h1).2 rfl⟩
  | .agg cs, _, h, y => by
    simp only [D.val, Option.bind_eq_some_iff] at h
    obtain ⟨vs, h1, h2⟩ := h
    cases hb : vs.all (·.oneCell') with
    | false => rw [hb] at h2; cases h2
    | true =>
      rw [hb] at h2
      simp only [cond_true, Option.some.injEq] at h2
      subst h2
      simp only [Rep]
      constructor
      · rintro ⟨us, rfl, hu, _⟩
        rw [(rep_valL_iff h1).1 hu]
      · rintro rfl
        exact ⟨vs, rfl, (rep_valL_iff h1).2 rfl, fun u hu => List.all_eq_true.1 hb u hu⟩
  | .tup _, _, h, _ => by simp [D.val] at h
  | .fn _ _ _, _, h, _ => by simp [D.val] at h
  | .loc _ _, _, h, _ => by simp [D.val] at h
  | .rd _ _, _, h, _ => by simp [D.val] at h
  | .sl _ _, _, h, _ => by simp [D.val] at h
  | .win _ _ _ _, _, h, _ => by simp [D.val] at h
theorem rep_valL_iff : ∀ {l : List D} {vs : List Value}, valL l = some vs → ∀ {us : List Value}, RepL P w η X l us ↔ us = vs
  | [], _, h, us => by simp only [valL, Option.some.injEq] at h; subst h; simp only [RepL]
  | d :: l, _, h, us => by
    simp only [valL, Option.bind_eq_some_iff, Option.map_eq_some_iff] at h
    obtain ⟨x, h1, xs, h2, rfl⟩ := h
    simp only [RepL]
    constructor
    · rintro ⟨y, ys, rfl, hy, hys⟩
      rw [(rep_val_iff h1).1 hy, (rep_valL_iff h2).1 hys]
    · rintro rfl
      exact ⟨x, xs, rfl, (rep_val_iff h1).2 rfl, (rep_valL_iff h2).2 rfl⟩
end
end
section
variable {P : Program} {S : St} {K : D → St → Prop}
theorem dext {g : FuncId} {fn : Func} {e : Array Value → Sem Value} (hf : P.funcs[g]? = some fn) (hname : (fn.name == "runtime.NumGoroutine") = false) (hb : fn.body.isNone = true) (hn : Extern.findNext fn = none) (hx : Extern.find fn = some e) {args : List D}
    (h : ∀ base η w vs, Mem P base S η w → RepL P w η (Fix P S η) args vs → ∃ d S' η' v w', (e vs.toArray).run P w = .ok v w' ∧ K d S' ∧ Rep P w' η' (Fix P S' η') d v ∧ Goes P base S η w S' η' w') : DCalls P g args S K := fun base η w vs hM hr => by
  obtain ⟨d, S', η', v, w', h1, h2, h3, h4⟩ := h base η w vs hM hr
  refine .inr ⟨d, S', η', v, w', ?_, h2, h3, h4⟩
  rw [run_callFunc_extern hf hname hb hn hx, h1]
  rfl
theorem dext_pure {g : FuncId} {fn : Func} {e : Array Value → Sem Value} (hf : P.funcs[g]? = some fn) (hname : (fn.name == "runtime.NumGoroutine") = false) (hb : fn.body.isNone = true) (hn : Extern.findNext fn = none) (hx : Extern.find fn = some e) {args : List D} {us : List Value} {r : Value} {d : D}
    (hv : valL args = some us) (h : ∀ w, (e us.toArray).run P w = .ok r w) (hd : D.val d = some r) (hk : K d S) : DCalls P g args S K :=
  dext hf hname hb hn hx fun base η w vs hM hr => by
    rw [(rep_valL_iff hv).1 hr]
    exact ⟨d, S, η, r, w, h w, hk, (rep_val_iff hd).2 rfl, Goes.refl hM⟩
theorem dmeth_pure {t : TypeId} {d d' : D} {m : String} {g : FuncId} {x r : Value} (hd : D.val d = some x) (hd' : D.val d' = some r) (h : ∀ w, (method (P.types.size + Made.depth) t x m).run P w = .ok (g, r) w) : DMeth P t d m g d' := fun w η X v hr => by
  rw [(rep_val_iff hd).1 hr]
  exact ⟨r, h w, (rep_val_iff hd').2 rfl⟩
end
abbrev tyV (t : TypeId) : Value := .pointer (some ⟨1, t, none⟩)
abbrev tyD (t : TypeId) : D := .agg [.v (tyV t)]
abbrev rtD (t : TypeId) : D := .ifc 153 (tyD t)
theorem rlm (z : Sem Value) (f : TypeId → Addr → Nat → Nat → Sem Value) (v : Value) :
    ReflectliteValue.method z f #[v] = (do match ← ReflectliteValue.parts v with | none => z | some (t, a, fl) => f t a fl (fl % 32)) := rfl
theorem rls (v x : Value) : ReflectliteValue.set #[v, x] = (do
    let (some (dst, a, fl), some (src, b, _)) := (← ReflectliteValue.parts v, ← ReflectliteValue.parts x)
      | unsupported (.noEntry "extern/(internal/reflectlite.Value).Set.zeroValue")
    if fl / ReflectliteValue.flagAddr % 2 == 0 then unsupported (.noEntry "extern/(internal/reflectlite.Value).Set.unaddressable")
    let val ← loadVar src b
    if ← Rtype.directlyAssignable dst src then storeVar dst a val
    else if ← Rtype.implements dst src then
      if (← Rtype.kind src) == 20 then
        match val with
        | .nilIface => unsupported (.noEntry "extern/reflectlite: a nil value of one interface type handed on as a value of another")
        | _ => storeVar dst a val
      else storeVar dst a (.iface src val)
    else panicString ("reflectlite.Set: value of type " ++ (← Rtype.spelt src) ++ " is not assignable to type " ++ (← Rtype.spelt dst))
    pure (.tuple #[])) := rfl

section
variable {S : St} {K : D → St → Prop}
theorem unpackPEr (a : Addr) (w : World) : (ReflectliteValue.unpack (.iface 114 (.pointer (some a)))).run Tryz.prog w = .ok (.agg #[tyV 114, .pointer (some ⟨w.heap.size, 0, none⟩), .int .u64 150]) (w.alloc (.cells #[.pointer (some a)] 114)) := by kernel_rfl
theorem rlValueOfPEr {k off : Nat} (h : K (.agg [.v (tyV 114), .loc S.next 0, .v (.int .u64 150)]) (S.add (.box 114 [.loc k off]))) : DCalls Tryz.prog 59 [.ifc 114 (.loc k off)] S K :=
  dext (e := fun args => ReflectliteValue.unpack (args.getD 0 (.tuple #[]))) Tryz.func59 (by kernel_rfl) (by kernel_rfl) (by kernel_rfl) (by kernel_rfl) fun base η w vs hM hr => by
    simp only [RepL, Rep] at hr
    obtain ⟨_, _, rfl, ⟨_, rfl, b, hb, rfl⟩, rfl⟩ := hr
    have G := goes_name hM (.box 114 [.loc k off]) #[.pointer (some ⟨b, off, none⟩)] 114 (.inl ⟨_, [.pointer (some ⟨b, off, none⟩)], rfl, rfl, by simp only [RepL, Rep]; exact ⟨_, _, rfl, ⟨b, hb, rfl⟩, rfl⟩, fun x hx => by rw [List.mem_singleton] at hx; subst hx; rfl⟩)
    refine ⟨_, _, _, _, _, unpackPEr _ w, h, ?_, G⟩
    simp only [Rep, RepL]
    exact ⟨[_, _, _], rfl, ⟨_, _, rfl, rfl, _, _, rfl, ⟨w.heap.size, by simp only [Names.add, ↓reduceIte], rfl⟩, _, _, rfl, rfl, rfl⟩, fun x hx => by simp only [List.mem_cons, List.not_mem_nil, or_false] at hx; rcases hx with rfl | rfl | rfl <;> rfl⟩
theorem typePEr (a : Addr) (w : World) : (ReflectliteValue.methodAny (ReflectliteValue.valueError "reflectlite.Value.Type" 0) (fun t _ _ _ => ReflectliteType.toType t) #[.agg #[tyV 114, .pointer (some a), .int .u64 150]]).run Tryz.prog w = .ok (.iface 153 (.agg #[tyV 114])) w := by kernel_rfl
theorem rlTypePEr {k off : Nat} (h : K (rtD 114) S) : DCalls Tryz.prog 60 [.agg [.v (tyV 114), .loc k off, .v (.int .u64 150)]] S K :=
  dext (e := ReflectliteValue.methodAny (ReflectliteValue.valueError "reflectlite.Value.Type" 0) (fun t _ _ _ => ReflectliteType.toType t)) Tryz.func60 (by kernel_rfl) (by kernel_rfl) (by kernel_rfl) (by kernel_rfl) fun base η w vs hM hr => by
    simp only [RepL, Rep] at hr
    obtain ⟨_, _, rfl, ⟨_, rfl, ⟨_, _, rfl, rfl, _, _, rfl, ⟨b, hb, rfl⟩, _, _, rfl, rfl, rfl⟩, _⟩, rfl⟩ := hr
    exact ⟨_, S, η, _, w, typePEr _ w, h, (rep_val_iff (d := rtD 114) rfl).2 rfl, Goes.refl hM⟩
theorem partsPEr (a : Addr) (w : World) : (ReflectliteValue.parts (.agg #[tyV 114, .pointer (some a), .int .u64 150])).run Tryz.prog w = .ok (some (114, a, 150)) w := by kernel_rfl
theorem rlIsNilPEr {b k off : Nat} (hb : S.ob b = some (.box 114 [.loc k off])) (h : K (.v (.bool false)) S) : DCalls Tryz.prog 61 [.agg [.v (tyV 114), .loc b 0, .v (.int .u64 150)]] S K :=
  dext (e := ReflectliteValue.method (ReflectliteValue.valueError "reflectlite.Value.IsNil" 0) ReflectliteValue.isNil) Tryz.func61 (by kernel_rfl) (by kernel_rfl) (by kernel_rfl) (by kernel_rfl) fun base η w vs hM hr => by
    simp only [RepL, Rep] at hr
    obtain ⟨_, _, rfl, ⟨_, rfl, ⟨_, _, rfl, rfl, _, _, rfl, ⟨q, hq, rfl⟩, _, _, rfl, rfl, rfl⟩, _⟩, rfl⟩ := hr
    obtain ⟨us, g1, g2, g3⟩ := hM.box b _ _ q hb hq
    simp only [RepL, Rep] at g2
    obtain ⟨_, _, rfl, ⟨p, hp, rfl⟩, rfl⟩ := g2
    have ha : w.cell? ⟨q, 0, none⟩ = some (.pointer (some ⟨p, off, none⟩)) := by simp [World.cell?, g1]
    refine ⟨_, S, η, .bool false, w, ?_, h, by simp only [Rep], Goes.refl hM⟩
    rw [rlm]
    simp only [Sem.run_bind, partsPEr, Result.andThen]
    simp [ReflectliteValue.isNil, loadVar, isAgg, underlying, Tryz.underlying114, ha, Result.andThen]
theorem elemOfPEr (w : World) : (Rtype.elem? 114).run Tryz.prog w = .ok (some 104) w := by kernel_rfl
theorem mkPEr (p : Addr) (w : World) : (ReflectliteValue.mk 104 p ReflectliteValue.flagAddr).run Tryz.prog w = .ok (.agg #[tyV 104, .pointer (some p), .int .u64 386]) w := by kernel_rfl
theorem rlElemPEr {b k off : Nat} (hb : S.ob b = some (.box 114 [.loc k off])) (h : K (.agg [.v (tyV 104), .loc k off, .v (.int .u64 386)]) S) : DCalls Tryz.prog 87 [.agg [.v (tyV 114), .loc b 0, .v (.int .u64 150)]] S K :=
  dext (e := ReflectliteValue.method (ReflectliteValue.valueError "reflectlite.Value.Elem" 0) ReflectliteValue.elem) Tryz.func87 (by kernel_rfl) (by kernel_rfl) (by kernel_rfl) (by kernel_rfl) fun base η w vs hM hr => by
    simp only [RepL, Rep] at hr
    obtain ⟨_, _, rfl, ⟨_, rfl, ⟨_, _, rfl, rfl, _, _, rfl, ⟨q, hq, rfl⟩, _, _, rfl, rfl, rfl⟩, _⟩, rfl⟩ := hr
    obtain ⟨us, g1, g2, g3⟩ := hM.box b _ _ q hb hq
    simp only [RepL, Rep] at g2
    obtain ⟨_, _, rfl, ⟨p, hp, rfl⟩, rfl⟩ := g2
    have ha : w.cell? ⟨q, 0, none⟩ = some (.pointer (some ⟨p, off, none⟩)) := by simp [World.cell?, g1]
    refine ⟨_, S, η, .agg #[tyV 104, .pointer (some ⟨p, off, none⟩), .int .u64 386], w, ?_, h, ?_, Goes.refl hM⟩
    · rw [rlm]
      simp only [Sem.run_bind, partsPEr, Result.andThen]
      simp [ReflectliteValue.elem, loadVar, isAgg, underlying, Tryz.underlying114, ha, Result.andThen, elemOfPEr, mkPEr]
    · simp only [Rep, RepL]
      exact ⟨[_, _, _], rfl, ⟨_, _, rfl, rfl, _, _, rfl, ⟨p, hp, rfl⟩, _, _, rfl, rfl, rfl⟩, fun x hx => by simp only [List.mem_cons, List.not_mem_nil, or_false] at hx; rcases hx with rfl | rfl | rfl <;> rfl⟩
theorem methKindPEr : DMeth Tryz.prog 153 (tyD 114) "Kind" 193 (.v (tyV 114)) := dmeth_pure rfl rfl fun w => by kernel_rfl
theorem methKindEr : DMeth Tryz.prog 153 (tyD 104) "Kind" 193 (.v (tyV 104)) := dmeth_pure rfl rfl fun w => by kernel_rfl
theorem rlKindPEr (h : K (.v (.int .u8 22)) S) : DCalls Tryz.prog 193 [.v (tyV 114)] S K :=
  dext_pure (e := ReflectliteType.abiMethod fun t => do pure (.int .u8 (← Rtype.kind t))) Tryz.func193 (by kernel_rfl) (by kernel_rfl) (by kernel_rfl) (by kernel_rfl) (r := .int .u8 22) rfl (fun w => by kernel_rfl) rfl h
theorem rlKindEr (h : K (.v (.int .u8 2)) S) : DCalls Tryz.prog 193 [.v (tyV 104)] S K :=
  dext_pure (e := ReflectliteType.abiMethod fun t => do pure (.int .u8 (← Rtype.kind t))) Tryz.func193 (by kernel_rfl) (by kernel_rfl) (by kernel_rfl) (by kernel_rfl) (r := .int .u8 2) rfl (fun w => by kernel_rfl) rfl h
theorem methElemPEr : DMeth Tryz.prog 153 (tyD 114) "Elem" 203 (tyD 114) := dmeth_pure rfl rfl fun w => by kernel_rfl
theorem rlTElemPEr (h : K (rtD 104) S) : DCalls Tryz.prog 203 [tyD 114] S K :=
  dext_pure (e := ReflectliteType.method ReflectliteType.elem) Tryz.func203 (by kernel_rfl) (by kernel_rfl) (by kernel_rfl) (by kernel_rfl) (r := .iface 153 (.agg #[tyV 104])) rfl (fun w => by kernel_rfl) rfl h
theorem methImplEr : DMeth Tryz.prog 153 (tyD 104) "Implements" 204 (tyD 104) := dmeth_pure rfl rfl fun w => by kernel_rfl
theorem rlImplEr (h : K (.v (.bool true)) S) : DCalls Tryz.prog 204 [tyD 104, rtD 66] S K :=
  dext_pure (e := ReflectliteType.relation "Implements" ReflectliteType.implements_) Tryz.func204 (by kernel_rfl) (by kernel_rfl) (by kernel_rfl) (by kernel_rfl) (r := .bool true) rfl (fun w => by kernel_rfl) rfl h
theorem methAsgEr : DMeth Tryz.prog 153 (tyD 104) "AssignableTo" 201 (tyD 104) := dmeth_pure rfl rfl fun w => by kernel_rfl
theorem rlAsgEr (h : K (.v (.bool true)) S) : DCalls Tryz.prog 201 [tyD 104, rtD 104] S K :=
  dext_pure (e := ReflectliteType.relation "AssignableTo" ReflectliteType.assignableTo) Tryz.func201 (by kernel_rfl) (by kernel_rfl) (by kernel_rfl) (by kernel_rfl) (r := .bool true) rfl (fun w => by kernel_rfl) rfl h
theorem typeOfEr (x : Value) (w : World) : (ReflectliteType.typeOf #[.iface 104 x]).run Tryz.prog w = .ok (.iface 153 (.agg #[tyV 104])) w := by kernel_rfl
theorem rlTypeOfEr {d : D} (h : K (rtD 104) S) : DCalls Tryz.prog 86 [.ifc 104 d] S K :=
  dext (e := ReflectliteType.typeOf) Tryz.func86 (by kernel_rfl) (by kernel_rfl) (by kernel_rfl) (by kernel_rfl) fun base η w vs hM hr => by
    simp only [RepL, Rep] at hr
    obtain ⟨_, _, rfl, ⟨x, rfl, _⟩, rfl⟩ := hr
    exact ⟨_, S, η, _, w, typeOfEr x w, h, (rep_val_iff (d := rtD 104) rfl).2 rfl, Goes.refl hM⟩
end

end Go.Proofs.YtogbklnkpjjkoaaGreatDoor

namespace Go.Proofs.YtogbklnkpjjkoaaGreatDoor
open Go.RowKit Go.Extern.Stop Go.Stop Go.Extern
abbrev erD (n : Int) : D := .ifc 104 (.v (.int .i64 n))
section
variable {P : Program} {S : St} {K : D → St → Prop}
end
section
variable {S : St} {K : D → St → Prop} {u : D}
end
theorem unpackEr (n : Int) (w : World) : (ReflectliteValue.unpack (.iface 104 (.int .i64 n))).run Tryz.prog w = .ok (.agg #[tyV 104, .pointer (some ⟨w.heap.size, 0, none⟩), .int .u64 130]) (w.alloc (.cells #[.int .i64 n] 104)) := by kernel_rfl
section
variable {S : St} {K : D → St → Prop}
theorem rlValueOfEr {n : Int} (h : K (.agg [.v (tyV 104), .loc S.next 0, .v (.int .u64 130)]) (S.add (.box 104 [.v (.int .i64 n)]))) : DCalls Tryz.prog 59 [erD n] S K :=
  dext (e := fun args => ReflectliteValue.unpack (args.getD 0 (.tuple #[]))) Tryz.func59 (by kernel_rfl) (by kernel_rfl) (by kernel_rfl) (by kernel_rfl) fun base η w vs hM hr => by
    simp only [RepL, Rep] at hr
    obtain ⟨_, _, rfl, ⟨_, rfl, rfl⟩, rfl⟩ := hr
    have G := goes_name hM (.box 104 [.v (.int .i64 n)]) #[.int .i64 n] 104 (.inl ⟨_, [.int .i64 n], rfl, rfl, by simp only [RepL, Rep]; exact ⟨_, _, rfl, rfl, rfl⟩, fun x hx => by rw [List.mem_singleton] at hx; subst hx; rfl⟩)
    refine ⟨_, _, _, _, _, unpackEr _ w, h, ?_, G⟩
    simp only [Rep, RepL]
    exact ⟨[_, _, _], rfl, ⟨_, _, rfl, rfl, _, _, rfl, ⟨w.heap.size, by simp only [Names.add, ↓reduceIte], rfl⟩, _, _, rfl, rfl, rfl⟩, fun x hx => by simp only [List.mem_cons, List.not_mem_nil, or_false] at hx; rcases hx with rfl | rfl | rfl <;> rfl⟩
end

theorem partsEra (a : Addr) (w : World) : (ReflectliteValue.parts (.agg #[tyV 104, .pointer (some a), .int .u64 386])).run Tryz.prog w = .ok (some (104, a, 386)) w := by kernel_rfl
theorem partsEr (a : Addr) (w : World) : (ReflectliteValue.parts (.agg #[tyV 104, .pointer (some a), .int .u64 130])).run Tryz.prog w = .ok (some (104, a, 130)) w := by kernel_rfl
theorem directEr (w : World) : (Rtype.directlyAssignable 104 104).run Tryz.prog w = .ok true w := by kernel_rfl
theorem sizeEr (w : World) : (sizeOf 104).run Tryz.prog w = .ok 1 w := by kernel_rfl
theorem setEr {b a : Nat} {x : Value} {n : Int} {W : World} (hb : W.heap[b]? = some (.cells [x].toArray 104 (0, 0))) (ha : W.cell? ⟨a, 0, none⟩ = some (.int .i64 n)) :
    (ReflectliteValue.set #[.agg #[tyV 104, .pointer (some ⟨b, 0, none⟩), .int .u64 386], .agg #[tyV 104, .pointer (some ⟨a, 0, none⟩), .int .u64 130]]).run Tryz.prog W = .ok (.tuple #[]) (W.setRow b [.int .i64 n].toArray) := by
  have q := run_storeCells_at Tryz.prog b 0 104 [.int .i64 n] 0 [x].toArray W hb (by simp) (by simp [Value.oneCell'])
  rw [rls]
  simp only [Sem.run_bind, partsEra, partsEr, Result.andThen]
  simp [ReflectliteValue.flagAddr, loadVar, isAgg, underlying, Tryz.underlying104, ha, Result.andThen, directEr, storeVar, sizeEr, Value.cells] at q ⊢
  simp [q]
theorem rlSetEr {S : St} {K : D → St → Prop} {a b : Nat} {d0 : D} {n : Int} (hb : S.ob b = some (.box 104 [d0])) (ha : S.ob a = some (.box 104 [.v (.int .i64 n)])) (h : K (.tup []) (S.set b (.box 104 [.v (.int .i64 n)]))) :
    DCalls Tryz.prog 88 [.agg [.v (tyV 104), .loc b 0, .v (.int .u64 386)], .agg [.v (tyV 104), .loc a 0, .v (.int .u64 130)]] S K :=
  dext (e := ReflectliteValue.set) Tryz.func88 (by kernel_rfl) (by kernel_rfl) (by kernel_rfl) (by kernel_rfl) fun base η w vs hM hr => by
    simp only [RepL, Rep] at hr
    obtain ⟨_, _, rfl, ⟨_, rfl, ⟨_, _, rfl, rfl, _, _, rfl, ⟨q, hq, rfl⟩, _, _, rfl, rfl, rfl⟩, _⟩, _, _, rfl, ⟨_, rfl, ⟨_, _, rfl, rfl, _, _, rfl, ⟨p, hp, rfl⟩, _, _, rfl, rfl, rfl⟩, _⟩, rfl⟩ := hr
    obtain ⟨us, g1, g2, g3⟩ := hM.box b _ _ q hb hq
    obtain ⟨us', k1, k2, k3⟩ := hM.box a _ _ p ha hp
    simp only [RepL] at g2
    obtain ⟨x, _, rfl, hx, rfl⟩ := g2
    simp only [RepL] at k2
    obtain ⟨y, _, rfl, hy, rfl⟩ := k2
    have hy0 := hy
    simp only [Rep] at hy
    subst hy
    have hc : w.cell? ⟨p, 0, none⟩ = some (.int .i64 n) := by simp [World.cell?, k1]
    have G := goes_set hM (cs' := [.v (.int .i64 n)]) (vs' := [_]) hb hq rfl (by simp only [RepL]; exact ⟨_, _, rfl, hy0, rfl⟩) k3
    exact ⟨_, _, _, _, _, setEr g1 hc, h, by simp only [Rep, RepL]; exact ⟨[], rfl, rfl⟩, G⟩

end Go.Proofs.YtogbklnkpjjkoaaGreatDoor

namespace Go.Proofs.YtogbklnkpjjkoaaGreatDoor
open Go.RowKit
set_option maxRecDepth 200000 in
set_option maxHeartbeats 4000000 in
theorem as0Walk {S : St} {n : Int} {x0 : D} {kb kc : Nat} {K : D → St → Prop} (hk : S.ob kc = some (.box 104 [x0])) (hb : S.ob kb = some (.box 114 [.loc kc 0]))
    (h : ∀ T, S.next ≤ T.next → T.WF → (∀ j o, j ≠ kc → S.ob j = some o → T.ob j = some o) → T.ob kc = some (.box 104 [.v (.int .i64 n)]) → K (.v (.bool true)) T) :
    DCalls Tryz.prog 62 [erD n, .ifc 114 (.loc kc 0), .agg [.v (tyV 114), .loc kb 0, .v (.int .u64 150)], rtD 104] S K := by
  refine dcalls_inline mixed Tryz.func62 rfl (fun _ _ => by kernel_rfl) (rs := [.tmp 8]) rfl (by kernel_rfl) (fun hS => ?_)
  (simp (disch := first | decide | omega | (simp only [nx]; first | done | omega)) only [go_sem]; (repeat with_reducible refine aI ?_))
  (refine dloop_st (fun t => List.contains [0, 8, 9, 10, 11, 12, 14, 15, 16, 17, 18, 19, 20, 21, 22, 23, 24, 25, 26, 27, 28, 29, 30, 31, 32, 33, 34, 35, 36, 37, 38, 39, 40, 41, 42, 43, 44, 45, 46, 47, 48, 49, 50, 51, 52, 53, 54, 55, 56, 57, 58, 59, 60, 61] t) (by kernel_rfl) ?_ (0) (fun i f => i ≤ 0 ∧ f 0 = erD n ∧ f 8 = .v (.bool false)) ?_ ?_; (exact (by (repeat' first | assumption | refine St.WF.leave ?_ _ | refine St.WF.add ?_ _ | refine St.WF.set ?_ ?_ _ | refine St.WF.grow ?_ _ _ _ | refine St.WF.keep ?_ ?_ | (first | omega | (simp only [RowOk.lo, nx]; first | done | omega))))); (exact ⟨(by omega), (by (first | (simp (disch := first | decide | omega | (simp only [nx]; first | done | omega)) only [go_sem]; first | done | rfl) | rfl)), (by (first | (simp (disch := first | decide | omega | (simp only [nx]; first | done | omega)) only [go_sem]; first | done | rfl) | rfl))⟩); intro i g tn hn hT hg hI; obtain ⟨le, q0, q8⟩ := hI; have q1 := hg 1 rfl; have q3 := hg 3 rfl; have q6 := hg 6 rfl; simp (disch := first | decide | omega | (simp only [nx]; first | done | omega)) only [go_sem] at q1 q3 q6; clear hg; have hn' := hn; try simp only [add_next, set_next, grow_next, leave_next, drop_next] at hn')
  have hB : ∀ j o, S.ob j = some o → (St.mk tn (S.add (.box 128 [.v (tyV 114), .loc kb 0, .v (.int .u64 150)])).ob).ob j = some o := fun j o ho => by
    have hkl := hS.lt ho
    show (if j = S.next then _ else S.ob j) = _
    rw [if_neg (by omega), ho]
  (simp (disch := first | decide | omega | (simp only [nx]; first | done | omega)) only [go_sem, q0, q1, q3, q6]; (repeat with_reducible refine aI ?_))
  refine rlTypeOfEr ?_
  (simp (disch := first | decide | omega | (simp only [nx]; first | done | omega)) only [go_sem, q0, q1, q3, q6]; (repeat with_reducible refine aI ?_))
  refine dinvoke_mk methAsgEr (rlAsgEr ?_)
  (simp (disch := first | decide | omega | (simp only [nx]; first | done | omega)) only [go_sem, q0, q1, q3, q6]; (repeat with_reducible refine aI ?_))
  refine rlElemPEr (hB _ _ hb) ?_
  (simp (disch := first | decide | omega | (simp only [nx]; first | done | omega)) only [go_sem, q0, q1, q3, q6]; (repeat with_reducible refine aI ?_))
  refine rlValueOfEr ?_
  (simp (disch := first | decide | omega | (simp only [nx]; first | done | omega)) only [go_sem, q0, q1, q3, q6]; (repeat with_reducible refine aI ?_))
  have hkc := hS.lt hk
  have hkn : kc ≠ tn := by omega
  refine rlSetEr (d0 := x0) (n := n) ?_ ?_ ?_
  · show (if kc = tn then _ else _) = _
    rw [if_neg hkn]; exact hB _ _ hk
  · show (if tn = tn then _ else _) = _
    rw [if_pos rfl]
  (simp (disch := first | decide | omega | (simp only [nx]; first | done | omega)) only [go_sem, q0, q1, q3, q6]; (repeat with_reducible refine aI ?_))
  refine h _ ?_ ?_ (fun j o hj ho => ?_) ?_
  · show S.next ≤ tn + 1
    omega
  · exact (by (repeat' first | assumption | refine St.WF.leave ?_ _ | refine St.WF.add ?_ _ | refine St.WF.set ?_ ?_ _ | refine St.WF.grow ?_ _ _ _ | refine St.WF.keep ?_ ?_ | (first | omega | (simp only [RowOk.lo, nx]; first | done | omega))))
  · show (if j = kc then _ else if j = tn then _ else _) = _
    have := hS.lt ho
    rw [if_neg hj, if_neg (by omega)]; exact hB _ _ ho
  · show (if kc = kc then _ else _) = _
    rw [if_pos rfl]
set_option maxRecDepth 200000 in
set_option maxHeartbeats 4000000 in
theorem as0 {S : St} {n : Int} {x0 : D} {kc : Nat} {K : D → St → Prop} (hk : S.ob kc = some (.box 104 [x0]))
    (h : ∀ T, S.next ≤ T.next → T.WF → (∀ j o, j ≠ kc → S.ob j = some o → T.ob j = some o) → T.ob kc = some (.box 104 [.v (.int .i64 n)]) → K (.v (.bool true)) T) :
    DCalls Tryz.prog 48 [erD n, .ifc 114 (.loc kc 0)] S K := by
  refine dcalls_inline mixed Tryz.func48 rfl (fun _ _ => by kernel_rfl) (rs := [.tmp 4]) rfl (by kernel_rfl) (fun hS => ?_)
  unfold erD
  (simp (disch := first | decide | omega | (simp only [nx]; first | done | omega)) only [go_sem]; (repeat with_reducible refine aI ?_))
  refine rlValueOfPEr ?_
  (simp (disch := first | decide | omega | (simp only [nx]; first | done | omega)) only [go_sem]; (repeat with_reducible refine aI ?_))
  refine rlTypePEr ?_
  (simp (disch := first | decide | omega | (simp only [nx]; first | done | omega)) only [go_sem]; (repeat with_reducible refine aI ?_))
  have k22 : ((22 : Int) != 22) = false := by decide
  have k20 : ((2 : Int) != 20) = true := by decide
  refine dinvoke_mk methKindPEr (rlKindPEr ?_)
  (simp (disch := first | decide | omega | (simp only [nx]; first | done | omega)) only [go_sem, k22]; (repeat with_reducible refine aI ?_))
  refine rlIsNilPEr (k := kc) (off := 0) ?_ ?_
  · (first | (simp (disch := first | decide | omega | (simp only [nx]; first | done | omega)) only [go_sem]; first | done | rfl) | rfl)
  (simp (disch := first | decide | omega | (simp only [nx]; first | done | omega)) only [go_sem, k22]; (repeat with_reducible refine aI ?_))
  refine dinvoke_mk methElemPEr (rlTElemPEr ?_)
  (simp (disch := first | decide | omega | (simp only [nx]; first | done | omega)) only [go_sem]; (repeat with_reducible refine aI ?_))
  refine dinvoke_mk methKindEr (rlKindEr ?_)
  (simp (disch := first | decide | omega | (simp only [nx]; first | done | omega)) only [go_sem, k20]; (repeat with_reducible refine aI ?_))
  refine dinvoke_mk methImplEr (rlImplEr ?_)
  (simp (disch := first | decide | omega | (simp only [nx]; first | done | omega)) only [go_sem]; (repeat with_reducible refine aI ?_))
  have hkc := hS.lt hk
  have hB : ∀ j o, S.ob j = some o → (((S.add (.box 114 [.loc kc 0])).add (.box 128 [.v (.pointer none), .v (.pointer none), .v (.int .u64 0)])).set (S.next + 1) (.box 128 [.v (tyV 114), .loc S.next 0, .v (.int .u64 150)])).ob j = some o := fun j o ho => by
    have hkl := hS.lt ho
    show (if j = S.next + 1 then _ else if j = S.next + 1 then _ else if j = S.next then _ else S.ob j) = _
    rw [if_neg (by omega), if_neg (by omega), if_neg (by omega), ho]
  refine as0Walk (hB _ _ hk) (kb := S.next) ?_ fun T t1 t2 t3 t4 => ?_
  · (first | (simp (disch := first | decide | omega | (simp only [nx]; first | done | omega)) only [go_sem]; first | done | rfl) | rfl)
  (simp (disch := first | decide | omega | (simp only [nx]; first | done | omega)) only [go_sem]; (repeat with_reducible refine aI ?_))
  exact h T (by have : S.next + 1 + 1 ≤ T.next := t1; omega) t2 (fun j o hj ho => t3 j o hj (hB _ _ ho)) t4
theorem code0_er (n : Int) : DPure Tryz.prog 30 [erD n] (.v (.int .i64 n)) := by
  refine dpure_of_dwp mixed Tryz.func30 rfl (fun _ _ => by kernel_rfl) (rs := [.tmp 2]) rfl (by kernel_rfl) trivial (fun S hS => ?_)
  unfold erD
  (simp (disch := first | decide | omega | (simp only [nx]; first | done | omega)) only [go_sem]; (repeat with_reducible refine aI ?_))
  refine as0 (x0 := .v (.int .i64 0)) ?_ fun T t1 t2 t3 t4 => ?_
  · show (if S.next = S.next then _ else _) = _
    rw [if_pos rfl]
  (simp (disch := first | decide | omega | (simp only [nx]; first | done | omega)) only [go_sem, t4]; (repeat with_reducible refine aI ?_))
  have hsub : S.Sub T := ⟨by have : S.next + 1 ≤ T.next := t1; omega, fun j o ho => t3 j o (by have := hS.lt ho; omega) (by have := hS.lt ho; show (if j = S.next then _ else _) = _; rw [if_neg (by omega), ho])⟩
  refine ⟨?_, (by (repeat' first | assumption | exact St.Sub.refl _ | exact RowOk.sub (by assumption) (by assumption) | refine St.Sub.trans ?_ (RowOk.sub (by assumption) (by assumption)) | refine St.Sub.add ?_ ?_ _ | refine St.Sub.set ?_ ?_ ?_ _ | refine St.Sub.keep ?_ ?_ | refine St.WF.leave ?_ _ | refine St.WF.add ?_ _ | refine St.WF.set ?_ ?_ _ | refine St.WF.grow ?_ _ _ _ | refine St.WF.keep ?_ ?_ | (first | omega | (simp only [RowOk.lo, nx]; first | done | omega))))⟩
  rfl
end Go.Proofs.YtogbklnkpjjkoaaGreatDoor

namespace Go.Proofs.YtogbklnkpjjkoaaGreatDoor
open Go.RowKit
section
set_option maxRecDepth 200000
set_option maxHeartbeats 8000000
theorem depth_no {S : St} {k : Nat} {F : Nat → Prop} {vs : List DVer} (hr : RegAt k F vs S) {h : H32} (hn : findR vs h = none) :
    DCalls Tryz.prog 25 [.loc k 0, encH h] S (fun d T => d = .v (.int .i64 (-1)) ∧ S.Sub T) := by
  refine dcalls_inline mixed Tryz.func25 rfl (fun _ _ => by kernel_rfl) (rs := [.tmp 4]) rfl (by kernel_rfl) (fun hS => ?_)
  have l1 := h.2
  (simp (disch := first | decide | omega | (simp only [nx]; first | done | omega)) only [go_sem, l1]; (repeat with_reducible refine aI ?_))
  generalize hX : St.add S _ = S1
  have hs1 : S.Sub S1 := by rw [← hX]; exact (St.Sub.refl S).add hS _
  clear hX
  have hr1 := hr.sub hs1
  refine go_at (find_at hr1 h) ?_
  rw [hn]
  have c1 : (none : Option Nat).isSome = false := rfl
  (simp (disch := first | decide | omega | (simp only [nx]; first | done | omega)) only [go_sem, c1]; (repeat with_reducible refine aI ?_))
  exact hs1
theorem rb_eq {x y : Operand} (a b : Bool) : dbin Tryz.prog .eql 4 x y (.v (.bool a)) (.v (.bool b)) = some (True, .v (.bool (a == b))) := by cases a <;> cases b <;> kernel_rfl
theorem rn_eq {x y : Operand} : dbin Tryz.prog .eql 30 x y (.v (.pointer none)) (.v (.pointer none)) = some (True, .v (.bool true)) := by kernel_rfl
theorem cl_argsN (v w : H32) (l : DLens) : allL (fun _ => False) [encH v, encH w, encL l] := by
  simp only [allL, and_true]
  have h : ∀ v : H32, D.all (fun _ => False) (encH v) := fun v => by
    simp only [D.all, encH]
    exact allL_iff.2 fun d hd => by obtain ⟨b, _, rfl⟩ := List.mem_map.1 hd; simp [bD, D.all]
  exact ⟨h v, h w, closed_encL l⟩
def rnS : DSch := .mk 5 [] []
theorem rnS_ok : okS rnS := by
  simp only [rnS, okS, okSs, I64, List.not_mem_nil, false_implies, implies_true, true_and, and_true]
  decide
theorem regNone_d (v w : H32) (l : DLens) (hok : okL l) : DPure Tryz.prog 7 [encH v, encH w, encL l] (.v (.bool true)) := by
  refine dpure_nil (cl_argsN v w l) (dat_of_dwpL mixed Tryz.func7 rfl (fun _ _ => by kernel_rfl) (rs := [.tmp 6]) rfl (by kernel_rfl) (by trivial) (fun hS => ?_))
  have lv := v.2
  have lw := w.2
  (simp (disch := first | decide | omega | (simp only [nx]; first | done | omega)) only [go_sem, lv, lw]; (repeat with_reducible refine aI ?_))
  refine DCalls.of_pure (great14_d l hok) ?_
  cases hg : greatL l with
  | true =>
    (simp (disch := first | decide | omega | (simp only [nx]; first | done | omega)) only [go_sem]; (repeat with_reducible refine aI ?_))
    refine DCalls.of_pure awake20_d ?_
    (simp (disch := first | decide | omega | (simp only [nx]; first | done | omega)) only [go_sem]; (repeat with_reducible refine aI ?_))
    exact ⟨rfl, ⟨Nat.zero_le _, fun _ _ h => by cases h⟩⟩
  | false =>
    (simp (disch := first | decide | omega | (simp only [nx]; first | done | omega)) only [go_sem, lv, lw]; (repeat with_reducible refine aI ?_))
    refine DCalls.of_pure (schema_nil v) ?_
    (simp (disch := first | decide | omega | (simp only [nx]; first | done | omega)) only [go_sem, lv, lw]; (repeat with_reducible refine aI ?_))
    refine DCalls.of_pure (lens_nil v) ?_
    (simp (disch := first | decide | omega | (simp only [nx]; first | done | omega)) only [go_sem, lv, lw]; (repeat with_reducible refine aI ?_))
    refine DCalls.of_pure (from_nil v) ?_
    (simp (disch := first | decide | omega | (simp only [nx]; first | done | omega)) only [go_sem, lv, lw, List.length_replicate]; (repeat with_reducible refine aI ?_))
    refine DCalls.of_pure (path_nil v w) ?_
    (simp (disch := first | decide | omega | (simp only [nx]; first | done | omega)) only [go_sem, lv, lw]; (repeat with_reducible refine aI ?_))
    generalize hX : St.set (St.add (St.set (St.add (St.set (St.add (St.set (St.add (St.add (St.add (St.add St.nil _) _) _) _) _ _) _) _ _) _) _ _) _) _ _ = S1
    have b1 : S1.ob St.nil.next = some (.box 39 (v.1.map bD)) := by rw [← hX]; (first | (simp (disch := first | decide | omega | (simp only [nx]; first | done | omega)) only [go_sem]; first | done | rfl) | rfl)
    have b2 : S1.ob (St.nil.next + 1) = some (.box 39 (w.1.map bD)) := by rw [← hX]; (first | (simp (disch := first | decide | omega | (simp only [nx]; first | done | omega)) only [go_sem]; first | done | rfl) | rfl)
    have b3 : S1.ob (St.nil.next + 1 + 1) = some (.box 47 (encL l).cells) := by rw [← hX]; (first | (simp (disch := first | decide | omega | (simp only [nx]; first | done | omega)) only [go_sem]; first | done | rfl) | rfl)
    have hW1 : S1.WF := by rw [← hX]; exact (by (repeat' first | assumption | refine St.WF.leave ?_ _ | refine St.WF.add ?_ _ | refine St.WF.set ?_ ?_ _ | refine St.WF.grow ?_ _ _ _ | refine St.WF.keep ?_ ?_ | (first | omega | (simp only [RowOk.lo, nx]; first | done | omega))))
    clear hX
    refine dcalls_argEq (args' := [encH v, encS rnS]) (by rw [rnS, encS_eq]; simp only [frzL, frz_encH]; rfl) ?_
    refine DCalls.mono (DCalls.wf (new_a v rnS rnS_ok (by decide))) ?_
    rintro d T0 ⟨⟨hd, hs0⟩, hT0⟩
    rw [if_pos ⟨rfl, by decide⟩] at hd
    obtain ⟨k, F0, rfl, hr0, hF0⟩ := hd
    have b1 := hs0.ob _ _ b1
    have b2 := hs0.ob _ _ b2
    have b3 := hs0.ob _ _ b3
    (simp (disch := first | decide | omega | (simp only [nx]; first | done | omega)) only [go_sem, rnil_ne, b1, b2, b3, lv, lw]; (repeat with_reducible refine aI ?_))
    have c0 : (((0 : Nat) : Int) == 0) = true := by decide
    have c14 : ((14 : Int) == 14) = true := by decide
    by_cases hvw : v = w
    · subst hvw
      have hfd : findR [rootV v rnS] v = some 0 := findR_at (wfR_root v rnS).nodup (i := 0) Nat.one_pos
      refine DCalls.mono (DCalls.wf (path_at hr0 (show (1 : Nat) ≤ 1000000 by decide) hfd hfd 0 (fun _ => 0) (by decide) rfl rfl (fun i hi => by omega))) ?_
      rintro d T1 ⟨⟨own1, rfl, hs1⟩, hT1⟩
      have b1 := hs1.ob _ _ b1
      have b2 := hs1.ob _ _ b2
      have b3 := hs1.ob _ _ b3
      have hr1 := hr0.sub hs1
      rw [pthN_zero]
      have hvw : decide (v = v) = true := decide_eq_true rfl
      have c00 : (((([] : List D).length : Nat) : Int) == 0) = true := by decide
      have t1 : (true == true) = true := rfl
      have c1 : (((1 : Nat) : Int) == 1) = true := by decide
      (simp (disch := first | decide | omega | (simp only [nx]; first | done | omega)) only [go_sem, b1, b2, b3, lv, lw]; (repeat with_reducible refine aI ?_))
      simp only [List.append_eq, List.cons_append, List.nil_append]
      (simp (disch := first | decide | omega | (simp only [nx]; first | done | omega)) only [go_sem, b1, b2, b3, lv, lw, c00]; (repeat with_reducible refine aI ?_))
      refine DCalls.of_pure (out_nil v) ?_
      (simp (disch := first | decide | omega | (simp only [nx]; first | done | omega)) only [go_sem, b1, b2, b3, lv, lw, c0]; (repeat with_reducible refine aI ?_))
      refine DCalls.of_pure versions_nil ?_
      (simp (disch := first | decide | omega | (simp only [nx]; first | done | omega)) only [go_sem, b1, b2, b3, lv, lw, c0]; (repeat with_reducible refine aI ?_))
      refine DCalls.of_pure (depth_nil v) ?_
      (simp (disch := first | decide | omega | (simp only [nx]; first | done | omega)) only [go_sem, b1, b2, b3, lv, lw, c0]; (repeat with_reducible refine aI ?_))
      refine DCalls.of_pure copy_nil ?_
      (simp (disch := first | decide | omega | (simp only [nx]; first | done | omega)) only [go_sem, b1, b2, b3, lv, lw, c0, rn_eq]; (repeat with_reducible refine aI ?_))
      refine DCalls.of_pure (add_nilR v _ l) ?_
      (simp (disch := first | decide | omega | (simp only [nx]; first | done | omega)) only [go_sem, b1, b2, b3, lv, lw, c0]; (repeat with_reducible refine aI ?_))
      refine DCalls.of_pure (code0_er 14) ?_
      (simp (disch := first | decide | omega | (simp only [nx]; first | done | omega)) only [go_sem, b1, b2, b3, lv, lw, c0, c14, onValS_eqH, rb_eq, hvw, t1, c1, List.map_cons, List.map_nil, List.length_singleton]; (repeat with_reducible refine aI ?_))
      refine DCalls.mono (DCalls.wf (depth_at hr1 (show (1 : Nat) ≤ 1000000 by decide) hfd 0 (fun _ => 0) (by decide) rfl ⟨Nat.one_pos, show (-1 : Int) < 0 by decide⟩ (fun i hi => by omega))) ?_
      rintro d T2 ⟨⟨rfl, hs2⟩, hT2⟩
      (simp (disch := first | decide | omega | (simp only [nx]; first | done | omega)) only [go_sem, c0, rb_eq, t1]; (repeat with_reducible refine aI ?_))
      refine DCalls.of_pure awake20_d ?_
      (simp (disch := first | decide | omega | (simp only [nx]; first | done | omega)) only [go_sem]; (repeat with_reducible refine aI ?_))
      exact ⟨rfl, ⟨Nat.zero_le _, fun _ _ h => by cases h⟩⟩
    · have hfd : findR [rootV v rnS] w = none := by
        cases h : findR [rootV v rnS] w with
        | none => rfl
        | some i =>
          obtain ⟨hi, e⟩ := findR_some h
          obtain rfl : i = 0 := by simpa using hi
          exact absurd e hvw
      refine DCalls.mono (DCalls.wf (path_no hr0 (.inr hfd))) ?_
      rintro d T1 ⟨⟨rfl, hs1⟩, hT1⟩
      have b1 := hs1.ob _ _ b1
      have b2 := hs1.ob _ _ b2
      have b3 := hs1.ob _ _ b3
      have hr1 := hr0.sub hs1
      have hvw : decide (v = w) = false := decide_eq_false hvw
      have c00 : (((([] : List D).length : Nat) : Int) == 0) = true := by decide
      have t1 : (false == false) = true := rfl
      have c1 : ((0 : Int) == 1) = false := by decide
      (simp (disch := first | decide | omega | (simp only [nx]; first | done | omega)) only [go_sem, b1, b2, b3, lv, lw]; (repeat with_reducible refine aI ?_))
      simp only [List.append_eq, List.cons_append, List.nil_append]
      (simp (disch := first | decide | omega | (simp only [nx]; first | done | omega)) only [go_sem, b1, b2, b3, lv, lw, c00]; (repeat with_reducible refine aI ?_))
      refine DCalls.of_pure (out_nil v) ?_
      (simp (disch := first | decide | omega | (simp only [nx]; first | done | omega)) only [go_sem, b1, b2, b3, lv, lw, c0]; (repeat with_reducible refine aI ?_))
      refine DCalls.of_pure versions_nil ?_
      (simp (disch := first | decide | omega | (simp only [nx]; first | done | omega)) only [go_sem, b1, b2, b3, lv, lw, c0]; (repeat with_reducible refine aI ?_))
      refine DCalls.of_pure (depth_nil v) ?_
      (simp (disch := first | decide | omega | (simp only [nx]; first | done | omega)) only [go_sem, b1, b2, b3, lv, lw, c0]; (repeat with_reducible refine aI ?_))
      refine DCalls.of_pure copy_nil ?_
      (simp (disch := first | decide | omega | (simp only [nx]; first | done | omega)) only [go_sem, b1, b2, b3, lv, lw, c0, rn_eq]; (repeat with_reducible refine aI ?_))
      refine DCalls.of_pure (add_nilR v _ l) ?_
      (simp (disch := first | decide | omega | (simp only [nx]; first | done | omega)) only [go_sem, b1, b2, b3, lv, lw, c0]; (repeat with_reducible refine aI ?_))
      refine DCalls.of_pure (code0_er 14) ?_
      (simp (disch := first | decide | omega | (simp only [nx]; first | done | omega)) only [go_sem, b1, b2, b3, lv, lw, c0, c14, onValS_eqH, rb_eq, hvw, t1, c1, List.map_cons, List.map_nil, List.length_nil]; (repeat with_reducible refine aI ?_))
      refine DCalls.mono (DCalls.wf (depth_no hr1 hfd)) ?_
      rintro d T2 ⟨⟨rfl, hs2⟩, hT2⟩
      have c2 : ((-1 : Int) == 0) = false := by decide
      (simp (disch := first | decide | omega | (simp only [nx]; first | done | omega)) only [go_sem, c2, rb_eq, t1]; (repeat with_reducible refine aI ?_))
      refine DCalls.of_pure awake20_d ?_
      (simp (disch := first | decide | omega | (simp only [nx]; first | done | omega)) only [go_sem]; (repeat with_reducible refine aI ?_))
      exact ⟨rfl, ⟨Nat.zero_le _, fun _ _ h => by cases h⟩⟩
end
end Go.Proofs.YtogbklnkpjjkoaaGreatDoor

namespace Go.Proofs.YtogbklnkpjjkoaaGreatDoor
open Go.ChangeShapes Go.WideShapes Go.ChangeAt Go.RowKit
set_option maxRecDepth 100000 in
theorem registryNone_lifted (os : Os) (started : os.Started) (H : Type) (enc : TypeId × Value → H) :
    ReturnsInHanded {} Tryz.checked os 7 .any (fun w args => (Rows.registryNoneSpec.pre enc Tryz.prog Tryz.f7 [] false w args ∧ laidMetH Tryz.prog doorLaid w) ∧ sizedMet enc Tryz.prog Tryz.f7 (OpenSpec.ofChange Rows.registryNoneSpec) false w args)
      (Rows.registryNoneSpec.post enc Tryz.prog Tryz.f7 false true false false) := by
  refine returnsInHanded_of_change_and (C := Tryz.checked) (X := fun w _ => laidMetH Tryz.prog doorLaid w) (fun _ _ _ hh h => h.of_heap hh) door_own started (by kernel_rfl) Tryz.func7
    (ChangeSpec.witness_at (enc := enc) (C := Tryz.checked) (os := os) (X := fun w _ => laidMetH Tryz.prog doorLaid w) false (laidWorld os) #[.agg ((rgH 1).1.map bV).toArray, .agg ((rgH 1).1.map bV).toArray, .agg #[.int .i64 0, .string "".toUTF8, .string "".toUTF8, .int .i64 0, .slice none 0 0, .slice none 0 0, .int .i64 0, .int .i64 0, .string "".toUTF8, .slice none 0 0, .slice none 0 0, .slice none 0 0, .int .i64 0, .int .i64 0, .string "".toUTF8, .slice none 0 0, .slice none 0 0, .slice none 0 0, .slice none 0 0, .slice none 0 0]] 8 rfl (by kernel_rfl) (by kernel_rfl) (by kernel_rfl) (by kernel_rfl) (by kernel_rfl) (laidWorld_met os _)) ?_
  intro W base args ds gs before hval0 hW hcnd hsz0 hL _
  have hG := glob_of_laid hL
  have hval : ∀ (j : Nat) t v, Tryz.f7.params[j]? = some t → args[j]? = some v → Value.okWide Tryz.prog W .any base t v := hval0
  have hsz : (DataW.weightsEach Tryz.prog (Tryz.f7.params.toList ++ Rows.registryNoneSpec.plain.varTypes Tryz.prog) (ds ++ gs)).all (· ≤ reachBytes) = true := hsz0
  have hW' := hW
  obtain ⟨p, q, hA0, hV, rfl, hfz, hnd⟩ := hW
  have hA : DataW.TrodAll enc Tryz.prog W 0 (fun _ => true) true Tryz.f7.params.toList args.toList ds p := hA0
  obtain ⟨rfl, rfl⟩ := trodVars_none hV
  rw [Tryz.params7] at hA hval hsz
  have hA1 := hA
  obtain ⟨v0, vs0, d0, ds0, p0, q0, hargs, rfl, rfl, h0, r0⟩ := trodAll_cons hA
  obtain ⟨v1, vs1, d1, ds1, p1, q1, rfl, rfl, rfl, h1, r1⟩ := trodAll_cons r0
  obtain ⟨v2, vs2, d2, ds2, p2, q2, rfl, rfl, rfl, h2, r2⟩ := trodAll_cons r1
  obtain ⟨rfl, rfl, rfl⟩ := trodAll_nil r2
  obtain rfl : args = #[v0, v1, v2] := by cases args; simp_all
  have z0 : Sized Tryz.prog 39 d0 := sized_of_each (j := 0) hsz rfl rfl
  have k0 : Value.okWide Tryz.prog W .any base 39 v0 := hval 0 _ _ rfl rfl
  have z1 : Sized Tryz.prog 39 d1 := sized_of_each (j := 1) hsz rfl rfl
  have k1 : Value.okWide Tryz.prog W .any base 39 v1 := hval 1 _ _ rfl rfl
  have z2 : Sized Tryz.prog 47 d2 := sized_of_each (j := 2) hsz rfl rfl
  have k2 : Value.okWide Tryz.prog W .any base 47 v2 := hval 2 _ _ rfl rfl
  clear hA0 hval0 hsz hsz0 hval
  have key : Calls Tryz.prog 7 #[v0, v1, v2] W (Gives (.bool true) W) := by
    obtain ⟨m0, hm0⟩ := open_hash h0 k0
    obtain ⟨m1, hm1⟩ := open_hash h1 k1
    obtain ⟨l, hl, hm2⟩ := open_lens h2 z2 k2
    exact door_gives (vs := [v0, v1, v2]) (regNone_d m0 m1 l hl) (by simp only [RepL]; exact ⟨_, _, rfl, hm0 _ _, _, _, rfl, hm1 _ _, _, _, rfl, hm2 _ _ (fun b i => fix_nilD b i), rfl⟩) (by intro _ _; kernel_rfl) hG
  refine key.mono fun e W' ⟨he, bel⟩ => ?_
  subst he
  exact ⟨_, rfl, _, _, _, [], _, [], hW', trodAll_mk1 (shut_bool Tryz.underlying4 _), trodAll_below door_laidOut bel (by kernel_rfl) hA1, rfl, bel.frame _, fun h => by cases h⟩

theorem registryNone_row : Rows.RegistryNoneSaid :=
  OpenClaim.holds_of_wide 7 Tryz.f7 rfl rfl rfl rfl rfl rfl rfl ⟨rfl, rfl, rfl, rfl, rfl⟩ rfl rfl rfl rfl rfl (by kernel_rfl) Tryz.func7 (by kernel_rfl)
    (of_decide_eq_true (by kernel_rfl)) (by unfold Func.isWrapper; first | (rw [if_pos (by decide +kernel)]; kernel_rfl) | (rw [if_neg (by decide +kernel)]; exact ⟨rfl, rfl⟩))
    (fun os started H enc _ => registryNone_lifted os started H enc)
theorem registryNone_holds : Rows.RegistryNoneCardSaid :=
  Claim7.holds_tied_plain_at .later [] [.handle] true Rows.registryNoneCard.stood.harness true
    registryNone_row (fun _ h => by cases h) (by kernel_rfl) (fun _ h => by cases h) registryNone_row_tie rfl ⟨rfl, rfl⟩ (by kernel_rfl) rfl
    (fun f fn hf hfn => by
      obtain rfl : f = 7 := Option.some.inj ((show Tryz.prog.funcNamed "dioptre/dioptrelaw20.RegistryNone" = some 7 by kernel_rfl).symm.trans hf) |>.symm
      obtain rfl : fn = Tryz.f7 := (Option.some.inj (Tryz.func7.symm.trans hfn)).symm
      exact ⟨by kernel_rfl, fun j t ht => by
        rw [Tryz.params7] at ht
        have ht' := List.mem_of_getElem? (Array.getElem?_toList ▸ ht)
        simp only [List.mem_cons, List.not_mem_nil, or_false] at ht'
        rcases ht' with rfl | rfl | rfl <;> exact (show Tryz.prog.wantsStandIn _ = false by kernel_rfl)⟩)
    (by kernel_rfl)
#print axioms registryNone_holds
end Go.Proofs.YtogbklnkpjjkoaaGreatDoor
