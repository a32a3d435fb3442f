/- WaitingPlays answers true for any size, any calls and any name, and leaves its arguments as they were. Conditions: none but the statement's own. -/
import Derived.Test.YtonncfminojejaaDoorP8
import Derived.Test.YtonncfminojejaaDoorCards
import Derived.Test.YtonncfminojejaaDoorTie
import Derived.SevenTiedAt
import Derived.RowKit
import Derived.RowKitTokens
set_option linter.unusedVariables false
set_option linter.unusedSimpArgs false
namespace Go.Proofs.YtonncfminojejaaDoor
open Go.RowKit
theorem cvW_u8i (n : Int) : pureRun Tryd.prog (convert 5 3 (.int .u8 n)) = some (.int .i64 (IntKind.i64.wrap n)) := by kernel_rfl
theorem bin_remW {P : Program} {t : TypeId} {x y : Operand} (k : IntKind) (a b : Int) (hb : b ≠ 0) : dbin P .rem t x y (.v (.int k a)) (.v (.int k b)) = some (True, .v (.int k (a.tmod b))) := by
  simp [dbin, eqGuard, binOp, Op.intDiv, pureRun_bind, pureRun_pure, hb]

section
variable {P : Program} {f : Fm} {md : Region.Mode} {Zs : St → Prop}
theorem s_takeG {Q : Fm → St → Prop} (i : Nat) {l : List Oper} {dst : Option Tmp} {op : Op} {ty : TypeId} {pos : String} {aft : Array Edge} {j : Nat} {want : Bool} {og : Oper} {t : Tmp} {fuel : Nat} {L : Array Bool} {S : St} (hi : nth l i = some ⟨dst, op, ty, pos, aft, some (j, want)⟩) (hj : nth l j = some og) (ht : og.dst = some t) (hft : f t = .v (.bool want))
    (hr : (Region.ready md (List.toArray l) L).contains i = true) (hf : Region.free md (List.toArray l) L i = true) {v : D}
    (hq : ∀ S, Zs S → dquietR P f S ty op v) (h : sAny P md (List.toArray l) Zs Q fuel (L.setIfInBounds i true) (put f dst v) S) : sAny P md (List.toArray l) Zs Q (fuel + 1) L f S :=
  have hi : (List.toArray l)[i]? = some ⟨dst, op, ty, pos, aft, some (j, want)⟩ := by rw [← hi, nth_eq]; simp
  have hj' : (List.toArray l)[j]? = some og := by rw [← hj, nth_eq]; simp
  have hg : gval (List.toArray l) f ⟨dst, op, ty, pos, aft, some (j, want)⟩ = some true := by
    simp only [gval, hj', Option.bind_some, ht, hft, beq_self_eq_true]
  sAny_first hi fuel L f S (Region.free_spec hi hf) (by simpa using hr) (.inl ⟨hg, hq⟩) h
end
section
set_option maxRecDepth 200000
set_option maxHeartbeats 8000000
theorem plays_at (sz : UInt8) (l : List DCl) (ask : H32) : DAt Tryd.prog 4 [.v (.int .u8 (sz.toNat : Int)), .sl .no (l.map encCl), encH ask] St.nil (.v (.bool true)) := by
  refine dat_of_dwpL mixed Tryd.func4 rfl (fun _ _ => by kernel_rfl) (rs := [.tmp 6]) rfl (by kernel_rfl) (by trivial) (fun hS => ?_)
  have la := ask.2
  (simp (disch := first | decide | omega | (simp only [nx]; first | done | omega)) only [go_sem]; (repeat with_reducible refine aI ?_))
  refine DCalls.of_pure (great_d l) ?_
  cases hsm : smallB l with
  | false =>
    have nf : (!false) = true := rfl
    (simp (disch := first | decide | omega | (simp only [nx]; first | done | omega)) only [go_sem, nf]; (repeat with_reducible refine aI ?_))
    refine DCalls.of_pure awake_d ?_
    (simp (disch := first | decide | omega | (simp only [nx]; first | done | omega)) only [go_sem]; (repeat with_reducible refine aI ?_))
    refine ⟨?_, (by (repeat' first | assumption | exact St.Sub.refl _ | exact RowOk.sub (by assumption) (by assumption) | refine St.Sub.trans ?_ (RowOk.sub (by assumption) (by assumption)) | refine St.Sub.add ?_ ?_ _ | refine St.Sub.set ?_ ?_ ?_ _ | refine St.Sub.keep ?_ ?_ | refine St.WF.leave ?_ _ | refine St.WF.add ?_ _ | refine St.WF.set ?_ ?_ _ | refine St.WF.grow ?_ _ _ _ | refine St.WF.keep ?_ ?_ | (first | omega | (simp only [RowOk.lo, nx]; first | done | omega))))⟩
    rfl
  | true =>
    have nt : (!true) = false := rfl
    have hz : sz.toNat < 256 := sz.toNat_lt
    have rm : ∀ {x y : Operand}, dbin Tryd.prog .rem 5 x y (.v (.int .u8 (sz.toNat : Int))) (.v (.int .u8 33)) = some (True, .v (.int .u8 ((sz.toNat % 33 : Nat) : Int))) := by intro x y; rw [bin_remW _ _ _ (by omega)]; rfl
    have wz : IntKind.i64.wrap ((sz.toNat % 33 : Nat) : Int) = ((sz.toNat % 33 : Nat) : Int) := IntWalk.i64_in _ ⟨by omega, by omega⟩
    (simp (disch := first | decide | omega | (simp only [nx]; first | done | omega)) only [go_sem, nt, rm, wz, cvW_u8i]; (repeat with_reducible refine aI ?_))
    generalize hsize : sz.toNat % 33 = size at *
    have hs33 : size ≤ 32 := by omega
    refine DCalls.mono (DCalls.wf (new_some size hs33)) ?_
    rintro d T ⟨⟨rfl, hrm, hsub⟩, hT⟩
    (simp (disch := first | decide | omega | (simp only [nx]; first | done | omega)) only [go_sem, bnil_ne, rm, wz, cvW_u8i]; (repeat with_reducible refine aI ?_))
    have hask : T.ob St.nil.next = some (.box 37 (ask.1.map bD)) := hsub.ob _ _ rfl
    have hkm : (St.nil.next + 1) < T.next := by
      obtain ⟨_, hq, _⟩ := hrm.ex
      exact hT.lt hq
    have hl40 : l.length ≤ 40 ∧ ∀ i (h : i < l.length), l[i].b.length ≤ 100 ∧ l[i].l.length ≤ 12 := by
      rw [smallB, Bool.and_eq_true, List.all_eq_true] at hsm
      refine ⟨of_decide_eq_true hsm.1, fun i h => ?_⟩
      have := hsm.2 l[i] (List.getElem_mem h)
      rwa [Bool.and_eq_true, decide_eq_true_eq, decide_eq_true_eq] at this
    have hsubT : T.Sub (T.add (.box 34 [.v (.int .i64 (size : Int)), .sl .full [], .sl .full []])) := (St.Sub.refl T).add hT _
    refine dloop_up (fun t => List.contains [6, 10, 32, 33, 34, 35, 36, 37, 38, 39, 40, 41, 42, 43, 44, 45, 46, 47, 48, 49, 50, 51, 52, 53, 54, 55, 56, 57, 58, 59, 60, 61, 62, 63, 64, 65, 66, 67, 68, 69, 70, 71, 72, 73, 74, 75, 76, 77, 78, 79, 80] t) (by kernel_rfl) (by exact hT.add _) l.length (fun i q T' => i ≤ l.length ∧ q 10 = .v (.int .i64 ((i : Nat) : Int)) ∧ (∃ gs rs L, RoomAt (St.nil.next + 1) gs size T' ∧ RefAt T.next rs L size T' ∧ Both gs rs L size i) ∧ T'.ob St.nil.next = some (.box 37 (ask.1.map bD)))
      ⟨by omega, by (first | (simp (disch := first | decide | omega | (simp only [nx]; first | done | omega)) only [go_sem]; first | done | rfl) | rfl), ⟨[], [], [], hrm.mono hsubT.ob, ⟨.full, .full, by (first | (simp (disch := first | decide | omega | (simp only [nx]; first | done | omega)) only [go_sem]; first | done | rfl) | rfl), .inl ⟨rfl, rfl⟩, .inl ⟨rfl, rfl⟩⟩, Both.nil size⟩, hsubT.ob _ _ hask⟩ ?_
    rintro i q V hV hg ⟨le, q10, ⟨gs, rs, L, vg, vm, vb⟩, va⟩
    (have q1 := hg 1 rfl; have q5 := hg 5 rfl; have q7 := hg 7 rfl; have q9 := hg 9 rfl; simp (disch := first | decide | omega | (simp only [nx]; first | done | omega)) only [go_sem] at q1 q5 q7 q9; clear hg)
    by_cases hlt : i < l.length
    · have b1 : decide ((i : Int) < (l.length : Int)) = true := decide_eq_true (by omega)
      have w1 : IntKind.i64.wrap ((i : Int) + 1) = ((i + 1 : Nat) : Int) := IntWalk.i64_in _ ⟨by omega, by omega⟩
      obtain ⟨hb, hl⟩ := hl40.2 i hlt
      have hvr := vb.rl
      (simp (disch := first | decide | omega | (simp only [nx]; first | done | omega)) only [go_sem, q1, q5, q7, q9, q10, b1, hlt]; (repeat with_reducible refine aI ?_))
      refine ddraw_any (fun S' => S'.ob St.nil.next = some (.box 37 (ask.1.map bD))) 43 (by (first | (simp (disch := first | decide | omega | (simp only [nx]; first | done | omega)) only [go_sem, va]; first | done | rfl) | rfl)) (by kernel_rfl) ?_
      (refine s_take 0 rfl (by kernel_rfl) (by kernel_rfl) (v := ?v1) (fun S' hz => dquietR_of ?h1) <| s_take 1 rfl (by kernel_rfl) (by kernel_rfl) (v := ?v2) (fun S' hz => dquietR_of ?h2) <| s_take 2 rfl (by kernel_rfl) (by kernel_rfl) (v := ?v3) (fun S' hz => dquietR_of ?h3) <| s_take 3 rfl (by kernel_rfl) (by kernel_rfl) (v := ?v4) (fun S' hz => dquietR_of ?h4) <| s_take 4 rfl (by kernel_rfl) (by kernel_rfl) (v := ?v5) (fun S' hz => dquietR_of ?h5) <| s_take 5 rfl (by kernel_rfl) (by kernel_rfl) (v := ?v6) (fun S' hz => dquietR_of ?h6) <| ?k6; (case h1 | h2 | h3 | h4 | h5 | h6 => ((simp (disch := first | decide | omega | (simp only [nx]; first | done | omega)) only [go_sem, q1, q7, q9, q10, hz, hlt, hz]; (repeat with_reducible refine aI ?_)); first | done | exact rfl | omega)))
      refine s_split [6] (by kernel_rfl) (by simp) ?_
      intro j_ hj_
      obtain rfl : j_ = 6 := by simpa using hj_
      refine s_op rfl ?_
      (simp (disch := first | decide | omega | (simp only [nx]; first | done | omega)) only [go_sem, q1, q7, q9, q10]; (repeat with_reducible refine aI ?_))
      refine DCalls.mono (DCalls.wf (does_at (by omega) vg vm vb.r vb.ok vb.le hs33 (by omega) l[i] hb hl)) ?_
      rintro d T1 ⟨⟨rfl, tg, tm, tn, tb⟩, hT1⟩
      have ta := tb St.nil.next _ _ (by omega) (by omega) va
      refine ⟨ta, ?_⟩
      refine sAny_re (Zs' := fun S' => S' = T1) (fun S' e => e ▸ ta) _ _ rfl ?_
      have hB := vb.next l[i] hb hl
      have hGL : (nxtL rs L size l[i]).length = (nxtG gs size l[i]).length := by rw [hB.r.l, List.length_map]
      have hgl2 := hB.le
      have hrl2 := hB.rl
      have nt2 : (!true) = false := rfl
      generalize nxtG gs size l[i] = G2 at *
      generalize nxtR rs L size l[i] = R2 at *
      generalize nxtL rs L size l[i] = L2 at *
      obtain ⟨p1, p2, tm1, _, _⟩ := tm.ex
      have hlne : (((G2.length : Nat) : Int) != ((L2.length : Nat) : Int)) = false := by rw [hGL]; simp
      have hnm : G2.map (·.n) = L2.map (·.1) := by rw [hB.r.l, List.map_map]; rfl
      have hmm := miss_eq hB.r
      (refine s_take 7 rfl (by kernel_rfl) (by kernel_rfl) (v := ?v7) (fun S' hz => dquietR_of ?h7) <| s_take 8 rfl (by kernel_rfl) (by kernel_rfl) (v := ?v8) (fun S' hz => dquietR_of ?h8) <| ?k8; (case h7 | h8 => ((simp (disch := first | decide | omega | (simp only [nx]; first | done | omega)) only [go_sem, hz, nt2, hz]; (repeat with_reducible refine aI ?_)); first | done | exact rfl | omega)))
      (refine s_takeG 9 rfl rfl rfl (by (first | (simp (disch := first | decide | omega | (simp only [nx]; first | done | omega)) only [go_sem, q7]; first | done | rfl) | rfl)) (by kernel_rfl) (by kernel_rfl) (v := ?v9) (fun S' hz => dquietR_of ?h9) ?k9; (case h9 => ((simp (disch := first | decide | omega | (simp only [nx]; first | done | omega)) only [go_sem, q7, hz]; (repeat with_reducible refine aI ?_)); first | done | exact rfl | omega)))
      refine s_takeG 10 rfl rfl rfl (by (first | (simp (disch := first | decide | omega | (simp only [nx]; first | done | omega)) only [go_sem]; first | done | rfl) | rfl)) (by kernel_rfl) (by kernel_rfl) (v := .v (.int .i64 ((G2.length : Nat) : Int))) (fun S' hz => dquietR_of ?hq1) ?kq1; (case hq1 => (subst hz; (simp (disch := first | decide | omega | (simp only [nx]; first | done | omega)) only [go_sem]; (repeat with_reducible refine aI ?_)); refine dqgo_at (fun U hU hUo => len_at (tg.mono fun j o e => hUo j o e)) ?_; exact rfl))
      (refine s_takeG 11 rfl rfl rfl (by (first | (simp (disch := first | decide | omega | (simp only [nx]; first | done | omega)) only [go_sem, q9, tm1]; first | done | rfl) | rfl)) (by kernel_rfl) (by kernel_rfl) (v := ?v10) (fun S' hz => dquietR_of ?h10) ?k10; (case h10 => ((simp (disch := first | decide | omega | (simp only [nx]; first | done | omega)) only [go_sem, q9, tm1, hz]; (repeat with_reducible refine aI ?_)); first | done | exact rfl | omega)); refine s_takeG 12 rfl rfl rfl (by (first | (simp (disch := first | decide | omega | (simp only [nx]; first | done | omega)) only [go_sem, q9, tm1]; first | done | rfl) | rfl)) (by kernel_rfl) (by kernel_rfl) (v := ?v11) (fun S' hz => dquietR_of ?h11) ?k11; (case h11 => ((simp (disch := first | decide | omega | (simp only [nx]; first | done | omega)) only [go_sem, q9, tm1, hz]; (repeat with_reducible refine aI ?_)); first | done | exact rfl | omega)); refine s_takeG 13 rfl rfl rfl (by (first | (simp (disch := first | decide | omega | (simp only [nx]; first | done | omega)) only [go_sem, q9, tm1]; first | done | rfl) | rfl)) (by kernel_rfl) (by kernel_rfl) (v := ?v12) (fun S' hz => dquietR_of ?h12) ?k12; (case h12 => ((simp (disch := first | decide | omega | (simp only [nx]; first | done | omega)) only [go_sem, q9, tm1, hz]; (repeat with_reducible refine aI ?_)); first | done | exact rfl | omega)); refine s_takeG 14 rfl rfl rfl (by (first | (simp (disch := first | decide | omega | (simp only [nx]; first | done | omega)) only [go_sem, q9, tm1]; first | done | rfl) | rfl)) (by kernel_rfl) (by kernel_rfl) (v := ?v13) (fun S' hz => dquietR_of ?h13) ?k13; (case h13 => ((simp (disch := first | decide | omega | (simp only [nx]; first | done | omega)) only [go_sem, q9, tm1, hz]; (repeat with_reducible refine aI ?_)); first | done | exact rfl | omega)); refine s_takeG 15 rfl rfl rfl (by (first | (simp (disch := first | decide | omega | (simp only [nx]; first | done | omega)) only [go_sem, q9, tm1]; first | done | rfl) | rfl)) (by kernel_rfl) (by kernel_rfl) (v := ?v14) (fun S' hz => dquietR_of ?h14) ?k14; (case h14 => ((simp (disch := first | decide | omega | (simp only [nx]; first | done | omega)) only [go_sem, q9, tm1, hz]; (repeat with_reducible refine aI ?_)); first | done | exact rfl | omega)))
      (refine s_takeG 16 rfl rfl rfl (by (first | (simp (disch := first | decide | omega | (simp only [nx]; first | done | omega)) only [go_sem, hlne]; first | done | rfl) | rfl)) (by kernel_rfl) (by kernel_rfl) (v := ?v15) (fun S' hz => dquietR_of ?h15) ?k15; (case h15 => ((simp (disch := first | decide | omega | (simp only [nx]; first | done | omega)) only [go_sem, hlne, hz]; (repeat with_reducible refine aI ?_)); first | done | exact rfl | omega)))
      (refine s_take 17 rfl (by kernel_rfl) (by kernel_rfl) (v := ?v16) (fun S' hz => dquietR_of ?h16) <| s_take 18 rfl (by kernel_rfl) (by kernel_rfl) (v := ?v17) (fun S' hz => dquietR_of ?h17) <| ?k17; (case h16 | h17 => ((simp (disch := first | decide | omega | (simp only [nx]; first | done | omega)) only [go_sem, hz, hz]; (repeat with_reducible refine aI ?_)); first | done | exact rfl | omega)))
      (refine s_takeG 19 rfl rfl rfl (by (first | (simp (disch := first | decide | omega | (simp only [nx]; first | done | omega)) only [go_sem, q7]; first | done | rfl) | rfl)) (by kernel_rfl) (by kernel_rfl) (v := ?v18) (fun S' hz => dquietR_of ?h18) ?k18; (case h18 => ((simp (disch := first | decide | omega | (simp only [nx]; first | done | omega)) only [go_sem, q7, hz]; (repeat with_reducible refine aI ?_)); first | done | exact rfl | omega)))
      refine s_takeG 20 rfl rfl rfl (by (first | (simp (disch := first | decide | omega | (simp only [nx]; first | done | omega)) only [go_sem]; first | done | rfl) | rfl)) (by kernel_rfl) (by kernel_rfl) (v := .sl .no ((G2.map (·.n)).map encH)) (fun S' hz => dquietR_of ?hq51) ?kq51; (case hq51 => (subst hz; (simp (disch := first | decide | omega | (simp only [nx]; first | done | omega)) only [go_sem]; (repeat with_reducible refine aI ?_)); refine dqgo_at (fun U hU hUo => wnames_at (tg.mono fun j o e => hUo j o e) (by omega)) ?_; exact rfl))
      (refine s_takeG 21 rfl rfl rfl (by (first | (simp (disch := first | decide | omega | (simp only [nx]; first | done | omega)) only [go_sem, q9]; first | done | rfl) | rfl)) (by kernel_rfl) (by kernel_rfl) (v := ?v19) (fun S' hz => dquietR_of ?h19) ?k19; (case h19 => ((simp (disch := first | decide | omega | (simp only [nx]; first | done | omega)) only [go_sem, q9, hz]; (repeat with_reducible refine aI ?_)); first | done | exact rfl | omega)))
      refine s_takeG 22 rfl rfl rfl (by (first | (simp (disch := first | decide | omega | (simp only [nx]; first | done | omega)) only [go_sem]; first | done | rfl) | rfl)) (by kernel_rfl) (by kernel_rfl) (v := .sl .no ((G2.map (·.n)).map encH)) (fun S' hz => dquietR_of ?hq52) ?kq52; (case hq52 => (subst hz; (simp (disch := first | decide | omega | (simp only [nx]; first | done | omega)) only [go_sem]; (repeat with_reducible refine aI ?_)); refine dqgo_at (fun U hU hUo => hnm ▸ rnames_at (tm.mono fun j o e => hUo j o e) (by omega)) ?_; exact rfl))
      have hh1 := hashes_d .no .no (G2.map (·.n)) (G2.map (·.n)) (by rw [List.length_map]; omega)
      rw [decide_eq_true rfl] at hh1
      refine s_takeG 23 rfl rfl rfl (by (first | (simp (disch := first | decide | omega | (simp only [nx]; first | done | omega)) only [go_sem]; first | done | rfl) | rfl)) (by kernel_rfl) (by kernel_rfl) (v := .v (.bool true)) (fun S' hz => dquietR_of ?hq53) ?kq53; (case hq53 => (subst hz; (simp (disch := first | decide | omega | (simp only [nx]; first | done | omega)) only [go_sem]; (repeat with_reducible refine aI ?_)); refine dqgo_mk (hh1) ?_; exact rfl))
      (refine s_takeG 24 rfl rfl rfl (by (first | (simp (disch := first | decide | omega | (simp only [nx]; first | done | omega)) only [go_sem, nt2]; first | done | rfl) | rfl)) (by kernel_rfl) (by kernel_rfl) (v := ?v20) (fun S' hz => dquietR_of ?h20) ?k20; (case h20 => ((simp (disch := first | decide | omega | (simp only [nx]; first | done | omega)) only [go_sem, nt2, hz]; (repeat with_reducible refine aI ?_)); first | done | exact rfl | omega)))
      (refine s_take 25 rfl (by kernel_rfl) (by kernel_rfl) (v := ?v21) (fun S' hz => dquietR_of ?h21) <| s_take 26 rfl (by kernel_rfl) (by kernel_rfl) (v := ?v22) (fun S' hz => dquietR_of ?h22) <| ?k22; (case h21 | h22 => ((simp (disch := first | decide | omega | (simp only [nx]; first | done | omega)) only [go_sem, hz, hz]; (repeat with_reducible refine aI ?_)); first | done | exact rfl | omega)))
      (refine s_takeG 27 rfl rfl rfl (by (first | (simp (disch := first | decide | omega | (simp only [nx]; first | done | omega)) only [go_sem, q7]; first | done | rfl) | rfl)) (by kernel_rfl) (by kernel_rfl) (v := ?v23) (fun S' hz => dquietR_of ?h23) ?k23; (case h23 => ((simp (disch := first | decide | omega | (simp only [nx]; first | done | omega)) only [go_sem, q7, hz]; (repeat with_reducible refine aI ?_)); first | done | exact rfl | omega)))
      have hlk := lk_sum hB.lk
      refine s_takeG 28 rfl rfl rfl (by (first | (simp (disch := first | decide | omega | (simp only [nx]; first | done | omega)) only [go_sem]; first | done | rfl) | rfl)) (by kernel_rfl) (by kernel_rfl) (v := .sl .no ((missG G2).map encH)) (fun S' hz => dquietR_of ?hq54) ?kq54; (case hq54 => (subst hz; (simp (disch := first | decide | omega | (simp only [nx]; first | done | omega)) only [go_sem]; (repeat with_reducible refine aI ?_)); refine dqgo_at (fun U hU hUo => missing_at (tg.mono fun j o e => hUo j o e) (by omega) (by omega)) ?_; exact rfl))
      (refine s_takeG 29 rfl rfl rfl (by (first | (simp (disch := first | decide | omega | (simp only [nx]; first | done | omega)) only [go_sem, q9]; first | done | rfl) | rfl)) (by kernel_rfl) (by kernel_rfl) (v := ?v24) (fun S' hz => dquietR_of ?h24) ?k24; (case h24 => ((simp (disch := first | decide | omega | (simp only [nx]; first | done | omega)) only [go_sem, q9, hz]; (repeat with_reducible refine aI ?_)); first | done | exact rfl | omega)))
      refine s_takeG 30 rfl rfl rfl (by (first | (simp (disch := first | decide | omega | (simp only [nx]; first | done | omega)) only [go_sem]; first | done | rfl) | rfl)) (by kernel_rfl) (by kernel_rfl) (v := .sl .no ((missG G2).map encH)) (fun S' hz => dquietR_of ?hq55) ?kq55; (case hq55 => (subst hz; (simp (disch := first | decide | omega | (simp only [nx]; first | done | omega)) only [go_sem]; (repeat with_reducible refine aI ?_)); refine dqgo_at (fun U hU hUo => hmm ▸ rmiss_at (tm.mono fun j o e => hUo j o e) (by omega) (by omega)) ?_; exact rfl))
      have hml : (missG G2).length ≤ 1000000 := Nat.le_trans (List.length_filter_le _ _) (Nat.le_trans (sortH_len _) (by omega))
      have hh2 := hashes_d .no .no (missG G2) (missG G2) hml
      rw [decide_eq_true rfl] at hh2
      refine s_takeG 31 rfl rfl rfl (by (first | (simp (disch := first | decide | omega | (simp only [nx]; first | done | omega)) only [go_sem]; first | done | rfl) | rfl)) (by kernel_rfl) (by kernel_rfl) (v := .v (.bool true)) (fun S' hz => dquietR_of ?hq56) ?kq56; (case hq56 => (subst hz; (simp (disch := first | decide | omega | (simp only [nx]; first | done | omega)) only [go_sem]; (repeat with_reducible refine aI ?_)); refine dqgo_mk (hh2) ?_; exact rfl))
      (refine s_takeG 32 rfl rfl rfl (by (first | (simp (disch := first | decide | omega | (simp only [nx]; first | done | omega)) only [go_sem, nt2]; first | done | rfl) | rfl)) (by kernel_rfl) (by kernel_rfl) (v := ?v25) (fun S' hz => dquietR_of ?h25) ?k25; (case h25 => ((simp (disch := first | decide | omega | (simp only [nx]; first | done | omega)) only [go_sem, nt2, hz]; (repeat with_reducible refine aI ?_)); first | done | exact rfl | omega)))
      (refine s_take 33 rfl (by kernel_rfl) (by kernel_rfl) (v := ?v26) (fun S' hz => dquietR_of ?h26) <| s_take 34 rfl (by kernel_rfl) (by kernel_rfl) (v := ?v27) (fun S' hz => dquietR_of ?h27) <| ?k27; (case h26 | h27 => ((simp (disch := first | decide | omega | (simp only [nx]; first | done | omega)) only [go_sem, hz, hz]; (repeat with_reducible refine aI ?_)); first | done | exact rfl | omega)))
      (refine s_takeG 35 rfl rfl rfl (by (first | (simp (disch := first | decide | omega | (simp only [nx]; first | done | omega)) only [go_sem, q7]; first | done | rfl) | rfl)) (by kernel_rfl) (by kernel_rfl) (v := ?v28) (fun S' hz => dquietR_of ?h28) ?k28; (case h28 => ((simp (disch := first | decide | omega | (simp only [nx]; first | done | omega)) only [go_sem, q7, hz]; (repeat with_reducible refine aI ?_)); first | done | exact rfl | omega)))
      (refine s_takeG 36 rfl rfl rfl (by (first | (simp (disch := first | decide | omega | (simp only [nx]; first | done | omega)) only [go_sem, q5, ta, la]; first | done | rfl) | rfl)) (by kernel_rfl) (by kernel_rfl) (v := ?v29) (fun S' hz => dquietR_of ?h29) ?k29; (case h29 => ((simp (disch := first | decide | omega | (simp only [nx]; first | done | omega)) only [go_sem, q5, ta, la, hz]; (repeat with_reducible refine aI ?_)); first | done | exact rfl | omega)))
      refine s_takeG 37 rfl rfl rfl (by (first | (simp (disch := first | decide | omega | (simp only [nx]; first | done | omega)) only [go_sem]; first | done | rfl) | rfl)) (by kernel_rfl) (by kernel_rfl) (v := .v (.bool (hasG G2 ask))) (fun S' hz => dquietR_of ?hq57) ?kq57; (case hq57 => (subst hz; (simp (disch := first | decide | omega | (simp only [nx]; first | done | omega)) only [go_sem]; (repeat with_reducible refine aI ?_)); refine dqgo_at (fun U hU hUo => has_at (tg.mono fun j o e => hUo j o e) (by omega) ask) ?_; exact rfl))
      (refine s_takeG 38 rfl rfl rfl (by (first | (simp (disch := first | decide | omega | (simp only [nx]; first | done | omega)) only [go_sem, q9]; first | done | rfl) | rfl)) (by kernel_rfl) (by kernel_rfl) (v := ?v30) (fun S' hz => dquietR_of ?h30) ?k30; (case h30 => ((simp (disch := first | decide | omega | (simp only [nx]; first | done | omega)) only [go_sem, q9, hz]; (repeat with_reducible refine aI ?_)); first | done | exact rfl | omega)))
      (refine s_takeG 39 rfl rfl rfl (by (first | (simp (disch := first | decide | omega | (simp only [nx]; first | done | omega)) only [go_sem, q5, ta, la]; first | done | rfl) | rfl)) (by kernel_rfl) (by kernel_rfl) (v := ?v31) (fun S' hz => dquietR_of ?h31) ?k31; (case h31 => ((simp (disch := first | decide | omega | (simp only [nx]; first | done | omega)) only [go_sem, q5, ta, la, hz]; (repeat with_reducible refine aI ?_)); first | done | exact rfl | omega)))
      refine s_takeG 40 rfl rfl rfl (by (first | (simp (disch := first | decide | omega | (simp only [nx]; first | done | omega)) only [go_sem]; first | done | rfl) | rfl)) (by kernel_rfl) (by kernel_rfl) (v := .v (.bool (hasG G2 ask))) (fun S' hz => dquietR_of ?hq58) ?kq58; (case hq58 => (subst hz; (simp (disch := first | decide | omega | (simp only [nx]; first | done | omega)) only [go_sem]; (repeat with_reducible refine aI ?_)); refine dqgo_at (fun U hU hUo => (hB.r.has ask) ▸ rhas_at (tm.mono fun j o e => hUo j o e) (by omega) ask) ?_; exact rfl))
      have hbb : (hasG G2 ask != hasG G2 ask) = false := by simp
      (refine s_takeG 41 rfl rfl rfl (by (first | (simp (disch := first | decide | omega | (simp only [nx]; first | done | omega)) only [go_sem, bin_bneW, hbb]; first | done | rfl) | rfl)) (by kernel_rfl) (by kernel_rfl) (v := ?v32) (fun S' hz => dquietR_of ?h32) ?k32; (case h32 => ((simp (disch := first | decide | omega | (simp only [nx]; first | done | omega)) only [go_sem, bin_bneW, hbb, hz]; (repeat with_reducible refine aI ?_)); first | done | exact rfl | omega)))
      (refine s_take 42 rfl (by kernel_rfl) (by kernel_rfl) (v := ?v33) (fun S' hz => dquietR_of ?h33) ?k33; (case h33 => ((simp (disch := first | decide | omega | (simp only [nx]; first | done | omega)) only [go_sem, hz, hz]; (repeat with_reducible refine aI ?_)); first | done | exact rfl | omega)))
      (refine s_done (by kernel_rfl) ?_; (simp (disch := first | decide | omega | (simp only [nx]; first | done | omega)) only [go_sem, q10, w1]; (repeat with_reducible refine aI ?_)))
      exact ⟨by omega, T1.ob, fun _ _ h => h, by omega, by (first | (simp (disch := first | decide | omega | (simp only [nx]; first | done | omega)) only [go_sem, w1]; first | done | rfl) | rfl), ⟨G2, R2, L2, tg, tm, hB⟩, ta⟩
    · have b1 : decide ((i : Int) < (l.length : Int)) = false := decide_eq_false (by omega)
      (simp (disch := first | decide | omega | (simp only [nx]; first | done | omega)) only [go_sem, q1, q10, b1]; (repeat with_reducible refine aI ?_))
      refine DCalls.of_pure awake_d ?_
      (simp (disch := first | decide | omega | (simp only [nx]; first | done | omega)) only [go_sem]; (repeat with_reducible refine aI ?_))
      exact ⟨rfl, Nat.zero_le _, fun _ _ h => by cases h⟩
theorem plays_d (sz : UInt8) (l : List DCl) (ask : H32) : DPure Tryd.prog 4 [.v (.int .u8 (sz.toNat : Int)), .sl .no (l.map encCl), encH ask] (.v (.bool true)) := dpure_nil (by
  have hc : ∀ m : H32, D.all (fun _ => False) (encH m) := fun m => by
    simp only [D.all, encH]
    exact allL_iff.2 fun d hd => by obtain ⟨b, _, rfl⟩ := List.mem_map.1 hd; simp [bD, D.all]
  simp only [allL, and_true]
  refine ⟨trivial, ⟨trivial, allL_iff.2 fun d hd => ?_⟩, hc ask⟩
  obtain ⟨o, _, rfl⟩ := List.mem_map.1 hd
  simp only [encCl, clCs, D.all, allL]
  refine ⟨by simp [bD, D.all], allL_iff.2 fun d hd => ?_⟩
  rcases List.mem_append.1 hd with h | h
  · obtain ⟨b, _, rfl⟩ := List.mem_map.1 h; simp [bD, D.all]
  · rcases List.mem_cons.1 h with rfl | h
    · exact closed_bB o.b
    · obtain rfl := List.mem_singleton.1 h
      exact closed_Hs o.l) (plays_at sz l ask)
end
end Go.Proofs.YtonncfminojejaaDoor

namespace Go.Proofs.YtonncfminojejaaDoor
open Go.ChangeShapes Go.WideShapes Go.ChangeAt Go.RowKit
set_option maxRecDepth 100000 in
theorem waitingPlays_lifted (os : Os) (started : os.Started) (H : Type) (enc : TypeId × Value → H) :
    ReturnsInHanded {} Tryd.checked os 4 .any (fun w args => (Rows.waitingPlaysSpec.pre enc Tryd.prog Tryd.f4 [] false w args ∧ laidMetH Tryd.prog doorLaid w) ∧ sizedMet enc Tryd.prog Tryd.f4 (OpenSpec.ofChange Rows.waitingPlaysSpec) false w args)
      (Rows.waitingPlaysSpec.post enc Tryd.prog Tryd.f4 false true false false) := by
  refine returnsInHanded_of_change_and (C := Tryd.checked) (X := fun w _ => laidMetH Tryd.prog doorLaid w) (fun _ _ _ hh h => h.of_heap hh) door_own started (by kernel_rfl) Tryd.func4
    (ChangeSpec.witness_at (enc := enc) (C := Tryd.checked) (os := os) (X := fun w _ => laidMetH Tryd.prog doorLaid w) false (laidWorld os) #[.int .u8 0, .slice none 0 0, .agg (hA.1.map bV).toArray] 8 rfl (by kernel_rfl) (by kernel_rfl) (by kernel_rfl) (by kernel_rfl) (by kernel_rfl) (laidWorld_met os _)) ?_
  intro W base args ds gs before hval0 hW hcnd hsz0 hL _
  have hG := glob_of_laid hL
  have hval : ∀ (j : Nat) t v, Tryd.f4.params[j]? = some t → args[j]? = some v → Value.okWide Tryd.prog W .any base t v := hval0
  have hsz : (DataW.weightsEach Tryd.prog (Tryd.f4.params.toList ++ Rows.waitingPlaysSpec.plain.varTypes Tryd.prog) (ds ++ gs)).all (· ≤ reachBytes) = true := hsz0
  have hW' := hW
  obtain ⟨p, q, hA0, hV, rfl, hfz, hnd⟩ := hW
  have hA : DataW.TrodAll enc Tryd.prog W 0 (fun _ => true) true Tryd.f4.params.toList args.toList ds p := hA0
  obtain ⟨rfl, rfl⟩ := trodVars_none hV
  rw [Tryd.params4] at hA hval hsz
  have hA1 := hA
  obtain ⟨v0, vs0, d0, ds0, p0, q0, hargs, rfl, rfl, h0, r0⟩ := trodAll_cons hA
  obtain ⟨v1, vs1, d1, ds1, p1, q1, rfl, rfl, rfl, h1, r1⟩ := trodAll_cons r0
  obtain ⟨v2, vs2, d2, ds2, p2, q2, rfl, rfl, rfl, h2, r2⟩ := trodAll_cons r1
  obtain ⟨rfl, rfl, rfl⟩ := trodAll_nil r2
  obtain rfl : args = #[v0, v1, v2] := by cases args; simp_all
  have z0 : Sized Tryd.prog 5 d0 := sized_of_each (j := 0) hsz rfl rfl
  have k0 : Value.okWide Tryd.prog W .any base 5 v0 := hval 0 _ _ rfl rfl
  have z1 : Sized Tryd.prog 22 d1 := sized_of_each (j := 1) hsz rfl rfl
  have k1 : Value.okWide Tryd.prog W .any base 22 v1 := hval 1 _ _ rfl rfl
  have z2 : Sized Tryd.prog 37 d2 := sized_of_each (j := 2) hsz rfl rfl
  have k2 : Value.okWide Tryd.prog W .any base 37 v2 := hval 2 _ _ rfl rfl
  clear hA0 hval0 hsz hsz0 hval
  have key : Calls Tryd.prog 4 #[v0, v1, v2] W (Gives (.bool true) W) := by
    obtain ⟨n, rfl⟩ := open_u8n (d := d0) (p := ([] : List MemPlace)) k0
    obtain ⟨l, _, hl⟩ := open_cls h1 z1 k1
    obtain ⟨m, hm⟩ := open_hash h2 k2
    exact door_gives (vs := [bV n, v1, v2]) (plays_d n l m) (by simp only [RepL]; exact ⟨_, _, rfl, (by simp only [bD, Rep]; rfl), _, _, rfl, hl _ _ fix_nilD, _, _, rfl, hm _ _, rfl⟩) (by intro _ _; kernel_rfl) hG
  refine key.mono fun e W' ⟨he, bel⟩ => ?_
  subst he
  exact ⟨_, rfl, _, _, _, [], _, [], hW', trodAll_mk1 (shut_bool Tryd.underlying4 _), trodAll_below door_laidOut bel (by kernel_rfl) hA1, rfl, bel.frame _, fun h => by cases h⟩

theorem waitingPlays_row : Rows.WaitingPlaysSaid :=
  OpenClaim.holds_of_wide 4 Tryd.f4 rfl rfl rfl rfl rfl rfl rfl ⟨rfl, rfl, rfl, rfl, rfl⟩ rfl rfl rfl rfl rfl (by kernel_rfl) Tryd.func4 (by kernel_rfl)
    (of_decide_eq_true (by kernel_rfl)) (by unfold Func.isWrapper; first | (rw [if_pos (by decide +kernel)]; kernel_rfl) | (rw [if_neg (by decide +kernel)]; exact ⟨rfl, rfl⟩))
    (fun os started H enc _ => waitingPlays_lifted os started H enc)
theorem waitingPlays_holds : Rows.WaitingPlaysCardSaid :=
  Claim7.holds_tied_plain_at .later [] [.handle] true Rows.waitingPlaysCard.stood.harness true
    waitingPlays_row (fun _ h => by cases h) (by kernel_rfl) (fun _ h => by cases h) waitingPlays_row_tie rfl ⟨rfl, rfl⟩ (by kernel_rfl) rfl
    (fun f fn hf hfn => by
      obtain rfl : f = 4 := Option.some.inj ((show Tryd.prog.funcNamed "dioptre/dioptrelaw26.WaitingPlays" = some 4 by kernel_rfl).symm.trans hf) |>.symm
      obtain rfl : fn = Tryd.f4 := (Option.some.inj (Tryd.func4.symm.trans hfn)).symm
      exact ⟨by kernel_rfl, fun j t ht => by
        rw [Tryd.params4] at ht
        have ht' := List.mem_of_getElem? (Array.getElem?_toList ▸ ht)
        simp only [List.mem_cons, List.not_mem_nil, or_false] at ht'
        rcases ht' with rfl | rfl | rfl <;> exact (show Tryd.prog.wantsStandIn _ = false by kernel_rfl)⟩)
    (by kernel_rfl)
#print axioms waitingPlays_holds
end Go.Proofs.YtonncfminojejaaDoor
