/- Texts of a proof, part 10. Conditions: none. -/
import Derived.Test.YtjjhjhjphhpeiaaGreatDoorO9
import Derived.LaidEql
import Derived.Stop.Asserts
import Derived.RowKitTokens
set_option linter.unusedVariables false
set_option linter.unusedSimpArgs false
namespace Go.Proofs.YtjjhjhjphhpeiaaGreatDoor
open Go.RowKit
theorem DCalls.fin {P : Program} {g : FuncId} {args : List D} {S : St} {K : D → St → Prop} (h : DCalls P g args S fun d T => DFinT P S T d K) : DCalls P g args S K := fun base η w vs hM hr => by
  rcases h base η w vs hM hr with ⟨h1, h2⟩ | ⟨d, S', η', v, w', h1, ⟨S1, d1, t1, d', S'', q1, q2, q3, q4, q5, q6⟩, h3, h4⟩
  · refine .inl ⟨h1, h2.mono fun e w' ⟨d, S', η', v, ⟨S1, d1, t1, d', S'', q1, q2, q3, q4, q5, q6⟩, he, h3, h4⟩ => ?_⟩
    obtain ⟨η3, t2, t3⟩ := t1 _ _ _ _ h4.mem h3
    obtain ⟨g1, g2⟩ := goes_fin hM (h4.trans t2) q3 q4 q5
    exact ⟨d', S'', _, v, q6, he, g2 d' v q2 (q1 _ _ _ _ _ t3), g1⟩
  · obtain ⟨η3, t2, t3⟩ := t1 _ _ _ _ h4.mem h3
    obtain ⟨g1, g2⟩ := goes_fin hM (h4.trans t2) q3 q4 q5
    exact .inr ⟨d', S'', _, v, w', h1, q6, g2 d' v q2 (q1 _ _ _ _ _ t3), g1⟩
theorem frz_bDs (l : List UInt8) : frzL (l.map bD) = l.map bD := by simp [frzL_map, bD, D.frz, Function.comp_def]
theorem closed_bDs (l : List UInt8) : (D.sl .no (l.map bD)).closed := by
  simp only [D.closed, D.all, Own.all, true_and]
  refine allL_iff.2 fun d hd => ?_
  obtain ⟨b, _, rfl⟩ := List.mem_map.1 hd
  simp [bD, D.all]
theorem dpure_newB {g : FuncId} {args : List D} {bs : List UInt8} (h : ∀ S : St, DCalls Tryz.prog g args S fun d T => NewB S T d bs) : DPure Tryz.prog g args (.sl .no (bs.map bD)) := fun S base η w vs hM hr =>
  DCalls.fin ((h S).mono fun d T ⟨own, he, ho, h1, h2⟩ => DFin.t ⟨.sl .no (bs.map bD), S, by
      have := DLe.frz (D.sl own (bs.map bD))
      simp only [D.frz, frz_bDs] at this
      rw [he]; exact this, D.all_mono (fun _ h => h.elim) (closed_bDs bs), h1, Nat.le_refl _, fun k o hk => ⟨h2 k o hk, St.WF.lt (S := S) hM.fresh hk, fun _ _ _ => .inl hk⟩, rfl, rfl⟩) base η w vs hM hr
theorem refNum_d (n : Nat) (hn : IsU64 n) : DPure Tryz.prog 57 [.v (.int .u64 (n : Int))] (.sl .no ((numB n).map bD)) := dpure_newB fun S => refNum_w (n + 1) n S hn (Nat.lt_succ_self _)
theorem refByt_d (own : Own) (xs : List UInt8) (hx : xs.length ≤ 1000000) : DPure Tryz.prog 92 [.sl own (xs.map bD)] (.sl .no ((numB xs.length ++ xs).map bD)) := dpure_newB fun S => refByt_w own xs hx
theorem refPathB_d (own : Own) (l : List DStp) (hl : l.length ≤ 40) (hs : ∀ p ∈ l, p.1.length ≤ 100 ∧ IsU64 p.2) : DPure Tryz.prog 56 [.sl own (l.map encP)] (.sl .no ((pathB l).map bD)) := dpure_newB fun S => refPathB_w own l hl hs
theorem wts_take : ∀ (l : List DVal) (j : Nat), DVal.weights (l.take j) ≤ DVal.weights l
  | [], j => by simp
  | a :: l, 0 => by simp [DVal.weights]
  | a :: l, j + 1 => by have := wts_take l j; simp only [List.take_succ_cons, DVal.weights]; omega
theorem NewB.weak {S S1 T : St} {d : D} {bs : List UInt8} (h : NewB S1 T d bs) (hn : S.next ≤ S1.next) (hk : ∀ j o, S.ob j = some o → S1.ob j = some o) : NewB S T d bs := by
  obtain ⟨own, e, h1, h2, h3⟩ := h
  exact ⟨own, e, h1.imp id fun ⟨g, g1, g2, g3⟩ => ⟨g, g1, by omega, g3⟩, by omega, fun j o hj => h3 j o (hk j o hj)⟩
section
set_option maxRecDepth 200000
set_option maxHeartbeats 16000000
theorem refInt_d (n : Int) (hn : IsI64 n) : DPure Tryz.prog 93 [.v (.int .i64 n)] (.sl .no ((numB (zig n)).map bD)) := by
  have hz := zig_u64 n hn
  have hz' := hz
  unfold IsI64 at hn
  unfold IsU64 at hz'
  refine dpure_of_dwp mixed Tryz.func93 rfl (fun _ _ => by kernel_rfl) (rs := [.tmp 2]) rfl (by kernel_rfl) (closed_bDs _) (fun S hS => ?_)
  by_cases h0 : n < 0
  · have b1 : decide (n < 0) = true := by simp [h0]
    have e1 : zig n = (2 * (-(n + 1)) + 1).toNat := by unfold zig; rw [if_pos h0]
    have w1 : IntKind.i64.wrap (n + 1) = n + 1 := IntWalk.i64_in _ ⟨by omega, by omega⟩
    have w2 : IntKind.i64.wrap (0 - (n + 1)) = -(n + 1) := by rw [IntKind.wrap_i64]; omega
    have w3 : IntKind.u64.wrap (-(n + 1)) = -(n + 1) := by rw [IntKind.wrap_u64]; omega
    have w4 : IntKind.u64.wrap (2 * -(n + 1)) = 2 * -(n + 1) := by rw [IntKind.wrap_u64]; omega
    have w5 : IntKind.u64.wrap (2 * -(n + 1) + 1) = ((zig n : Nat) : Int) := by rw [IntKind.wrap_u64]; omega
    (simp (disch := first | decide | omega | (simp only [nx]; first | done | omega)) only [go_sem, b1, w1, w2, cv_i64u64, w3, w4, w5]; (repeat with_reducible refine aI ?_))
    refine DCalls.of_pure (refNum_d (zig n) hz) ?_
    (simp (disch := first | decide | omega | (simp only [nx]; first | done | omega)) only [go_sem]; (repeat with_reducible refine aI ?_))
    refine ⟨?_, (by (repeat' first | assumption | exact St.Sub.refl _ | exact RowOk.sub (by assumption) (by assumption) | refine St.Sub.trans ?_ (RowOk.sub (by assumption) (by assumption)) | refine St.Sub.add ?_ ?_ _ | refine St.Sub.set ?_ ?_ ?_ _ | refine St.Sub.keep ?_ ?_ | refine St.WF.leave ?_ _ | refine St.WF.add ?_ _ | refine St.WF.set ?_ ?_ _ | refine St.WF.grow ?_ _ _ _ | refine St.WF.keep ?_ ?_ | (first | omega | (simp only [RowOk.lo, nx]; first | done | omega))))⟩
    simp only [D.frz, frz_bDs]
  · have b1 : decide (n < 0) = false := by simp; omega
    have e1 : zig n = (2 * n).toNat := by unfold zig; rw [if_neg h0]
    have w3 : IntKind.u64.wrap n = n := by rw [IntKind.wrap_u64]; omega
    have w4 : IntKind.u64.wrap (2 * n) = ((zig n : Nat) : Int) := by rw [IntKind.wrap_u64]; omega
    (simp (disch := first | decide | omega | (simp only [nx]; first | done | omega)) only [go_sem, b1, cv_i64u64, w3, w4]; (repeat with_reducible refine aI ?_))
    refine DCalls.of_pure (refNum_d (zig n) hz) ?_
    (simp (disch := first | decide | omega | (simp only [nx]; first | done | omega)) only [go_sem]; (repeat with_reducible refine aI ?_))
    refine ⟨?_, (by (repeat' first | assumption | exact St.Sub.refl _ | exact RowOk.sub (by assumption) (by assumption) | refine St.Sub.trans ?_ (RowOk.sub (by assumption) (by assumption)) | refine St.Sub.add ?_ ?_ _ | refine St.Sub.set ?_ ?_ ?_ _ | refine St.Sub.keep ?_ ?_ | refine St.WF.leave ?_ _ | refine St.WF.add ?_ _ | refine St.WF.set ?_ ?_ _ | refine St.WF.grow ?_ _ _ _ | refine St.WF.keep ?_ ?_ | (first | omega | (simp only [RowOk.lo, nx]; first | done | omega))))⟩
    simp only [D.frz, frz_bDs]
theorem refValB_d (m : Nat) : ∀ (v : DVal), v.depth ≤ m → RV v → okV v → v.weight ≤ 2000 → DPure Tryz.prog 58 [encV v] (.sl .no ((bytesV m v).map bD)) := by
  induction m with
  | zero => intro v h; have := v.depth_pos; omega
  | succ m ih =>
    intro v hd hr ho_ hw
    refine dpure_newB fun S => ?_
    have hf := hr.facts
    have hh := hr.hereT
    have hp := (okV_eq v).1 ho_
    have hkk := hf.kind
    obtain ⟨c1, c2, c3, c4⟩ := here_parts hh
    unfold bad1 at c1
    unfold bad2 at c2
    have hbl := bytesV_len (m + 1) v hd hr ho_
    have hbv : bytesV (m + 1) v = vheadB v ++ vpartB m v v.parts.length := rfl
    have hhl := vhead_len hf ho_
    have hkb : (vkindB v).toNat = v.kind.toNat := by
      unfold vkindB
      rw [UInt8.toNat_ofNat_of_lt' (by show v.kind.toNat < 256; omega)]
    have hkb2 : ((vkindB v).toNat : Int) = v.kind := by rw [hkb]; omega
    have wk : IntKind.u8.wrap v.kind = ((vkindB v).toNat : Int) := by rw [hkb2, IntKind.wrap_u8]; omega
    refine dcalls_inline mixed Tryz.func58 rfl (fun _ _ => by kernel_rfl) (rs := [.tmp 2]) rfl (by kernel_rfl) (fun hS => ?_)
    (simp (disch := first | decide | omega | (simp only [nx]; first | done | omega)) only [go_sem, cv_i64u8, wk]; (repeat with_reducible refine aI ?_))
    have hu8 : [D.v (.int .u8 ((vkindB v).toNat : Int))] = [vkindB v].map bD := rfl
    by_cases e5 : v.kind = 5
    · have k1 : (v.kind == 1) = false := by simp [e5]
      have k2 : (v.kind == 2) = false := by simp [e5]
      have k3 : (v.kind == 3) = false := by simp [e5]
      have k4 : (v.kind == 4) = false := by simp [e5]
      have kk5 : (v.kind == 5) = true := by simp [e5]
      have hln : v.names.length = v.parts.length := by omega
      have hu0 : IsU64 v.parts.length := by unfold IsU64; omega
      have hn0 := numB_length_le v.parts.length hu0
      have wl : IntKind.u64.wrap (v.parts.length : Int) = (v.parts.length : Int) := wrap_u64 _ hu0
      (simp (disch := first | decide | omega | (simp only [nx]; first | done | omega)) only [go_sem, k1, k2, k3, k4, cv_i64u64, wl]; (repeat with_reducible refine aI ?_))
      refine DCalls.of_pure (refNum_d v.parts.length hu0) ?_
      (simp (disch := first | decide | omega | (simp only [nx]; first | done | omega)) only [go_sem]; (repeat with_reducible refine aI ?_))
      refine dapp_bytes2 (bs := [vkindB v]) (xs := numB v.parts.length) (.inl rfl) (by simp; omega) ?_
      have hN0 := NewB.grow (S := S.add (.box 29 (encV v).cells)) (T := S.add (.box 29 (encV v).cells)) (own := .full) (own2 := .full) (bs := [vkindB v]) (xs := numB v.parts.length) (hS.add _) (.inl rfl) (Nat.le_refl _) (fun _ _ h => h)
      have hhe : vheadB v = [vkindB v] ++ numB v.parts.length := by unfold vheadB; rw [if_neg (by omega), if_neg (by omega), if_neg (by omega)]; rfl
      rw [← hhe] at hN0 ⊢
      have hg0 : ((S.add (.box 29 (encV v).cells)).grow .full 5 ([vkindB v].length + (numB v.parts.length).length)).WF := (hS.add _).grow _ _ _
      revert hN0 hg0
      generalize St.grow (S.add (.box 29 (encV v).cells)) .full 5 ([vkindB v].length + (numB v.parts.length).length) = T0
      intro hN0 hg0
      (simp (disch := first | decide | omega | (simp only [nx]; first | done | omega)) only [go_sem]; (repeat with_reducible refine aI ?_))
      refine dloop_up (fun t => List.contains [3, 4, 42, 43, 44, 45, 46, 47, 48, 49, 50, 51, 52, 53, 54, 55, 56, 57, 58, 59, 60, 61, 62, 63, 64, 65, 66, 67, 68, 69, 70, 71, 72, 73, 74, 75, 76] t) (by kernel_rfl) (by exact hg0) v.parts.length (fun j g T => j ≤ v.parts.length ∧ g 4 = .v (.int .i64 ((j : Nat) : Int)) ∧ NewB (S.add (.box 29 (encV v).cells)) T (g 3) (vheadB v ++ vpartB m v j))
        ⟨by omega, by (first | (simp (disch := first | decide | omega | (simp only [nx]; first | done | omega)) only [go_sem]; first | done | rfl) | rfl), by rw [show vpartB m v 0 = [] from rfl, List.append_nil]; exact hN0⟩ ?_
      clear hN0 hg0
      rintro j g T hT hg ⟨le, q4, own3, q3, ho, hT1, hT2⟩
      (have q1 := hg 1 rfl; have q2 := hg 2 rfl; simp (disch := first | decide | omega | (simp only [nx]; first | done | omega)) only [go_sem] at q1 q2; clear hg)
      have t1 := hT2 _ _ (add_eq (S := S))
      by_cases hj : j < v.parts.length
      · have b1 : decide ((j : Int) < (v.parts.length : Int)) = true := by simp; omega
        have w1 : IntKind.i64.wrap ((j : Int) + 1) = ((j + 1 : Nat) : Int) := IntWalk.i64_in _ ⟨by omega, by omega⟩
        have hjn : j < v.names.length := by omega
        have hx12 := hf.names _ (List.getElem_mem hjn)
        have hkey : vkeyB v j = numB v.names[j].length ++ v.names[j] := by unfold vkeyB; rw [if_pos e5]; rw [getD_at hjn]
        have hkl := vkey_len hf ho_ j
        rw [hkey] at hkl
        have hvs := vpartB_succ m v j
        rw [getD_at hj, hkey] at hvs
        have hvl : (vpartB m v j).length ≤ 110 * v.weight + 30 * 12 := by
          have h1 := vpart_len m v j le hd hr ho_
          have h2 : DVal.weights (v.parts.take j) ≤ v.weight := by
            have := v.weight_eq
            have h3 := wts_take v.parts j
            omega
          omega
        have hsb : (strB v.names[j]).data.toList = v.names[j] := by simp [strB]
        (simp (disch := first | decide | omega | (simp only [nx]; first | done | omega)) only [go_sem, q1, q2, q4, q3, t1, b1, kk5, hjn, strD, sv, hsb]; (repeat with_reducible refine aI ?_))
        refine DCalls.of_pure (refByt_d .no v.names[j] (by omega)) ?_
        (simp (disch := first | decide | omega | (simp only [nx]; first | done | omega)) only [go_sem, q3]; (repeat with_reducible refine aI ?_))
        refine dapp_bytes2 (bs := vheadB v ++ vpartB m v j) (xs := numB v.names[j].length ++ v.names[j]) (ho.imp id fun ⟨g, h1, _, h2⟩ => ⟨g, h1, h2⟩) (by simp only [List.length_append] at hkl ⊢; omega) ?_
        have hN1 := NewB.grow (own2 := .full) (xs := numB v.names[j].length ++ v.names[j]) (hS.add _) ho hT1 hT2
        have hg1 := hT.grow own3 5 ((vheadB v ++ vpartB m v j).length + (numB v.names[j].length ++ v.names[j]).length)
        revert hN1 hg1
        generalize St.grow T own3 5 ((vheadB v ++ vpartB m v j).length + (numB v.names[j].length ++ v.names[j]).length) = T3
        rintro ⟨own4, q3b, ho4, hT31, hT32⟩ hg1
        rw [q3b]
        have t3 := hT32 _ _ (add_eq (S := S))
        have hmem := List.getElem_mem hj
        have hdj := DVal.depth_part hmem
        have hwj := DVal.weight_part hmem
        have hbj := bytesV_len m v.parts[j] (by omega) (hr.part hmem) (hp.2.2.2.2.2.2.2.2 _ hmem)
        (simp (disch := first | decide | omega | (simp only [nx]; first | done | omega)) only [go_sem, q1, q2, q4, t3, hj]; (repeat with_reducible refine aI ?_))
        refine DCalls.of_pure (ih v.parts[j] (by omega) (hr.part hmem) (hp.2.2.2.2.2.2.2.2 _ hmem) (by omega)) ?_
        (simp (disch := first | decide | omega | (simp only [nx]; first | done | omega)) only [go_sem]; (repeat with_reducible refine aI ?_))
        refine dapp_bytes2 (bs := (vheadB v ++ vpartB m v j) ++ (numB v.names[j].length ++ v.names[j])) (xs := bytesV m v.parts[j]) (ho4.imp id fun ⟨g, h1, _, h2⟩ => ⟨g, h1, h2⟩) (by simp only [List.length_append] at hkl ⊢; omega) ?_
        have hN2 := NewB.grow (own2 := .full) (xs := bytesV m v.parts[j]) (hS.add _) ho4 hT31 hT32
        (simp (disch := first | decide | omega | (simp only [nx]; first | done | omega)) only [go_sem, q4, w1]; (repeat with_reducible refine aI ?_))
        refine ⟨by omega, _, fun _ _ h => h, by omega, by (first | (simp (disch := first | decide | omega | (simp only [nx]; first | done | omega)) only [go_sem]; first | done | rfl) | rfl), ?_⟩
        have e : vheadB v ++ vpartB m v (j + 1) = ((vheadB v ++ vpartB m v j) ++ (numB v.names[j].length ++ v.names[j])) ++ bytesV m v.parts[j] := by rw [hvs]; simp only [List.append_assoc]
        rw [e]
        exact hN2
      · have b1 : decide ((j : Int) < (v.parts.length : Int)) = false := by simp; omega
        have hje : j = v.parts.length := by omega
        subst hje
        (simp (disch := first | decide | omega | (simp only [nx]; first | done | omega)) only [go_sem, q4, q1, q2, t1, b1, q3]; (repeat with_reducible refine aI ?_))
        rw [hbv]
        exact NewB.weak (S1 := S.add (.box 29 (encV v).cells)) ⟨own3, rfl, ho, hT1, hT2⟩ (Nat.le_succ _) (add_keep hS _)
    by_cases e6 : v.kind = 6
    · have k1 : (v.kind == 1) = false := by simp [e6]
      have k2 : (v.kind == 2) = false := by simp [e6]
      have k3 : (v.kind == 3) = false := by simp [e6]
      have k4 : (v.kind == 4) = false := by simp [e6]
      have kk5 : (v.kind == 5) = false := by simp [e6]
      have hln : v.ids.length = v.parts.length := by omega
      have hu0 : IsU64 v.parts.length := by unfold IsU64; omega
      have hn0 := numB_length_le v.parts.length hu0
      have wl : IntKind.u64.wrap (v.parts.length : Int) = (v.parts.length : Int) := wrap_u64 _ hu0
      (simp (disch := first | decide | omega | (simp only [nx]; first | done | omega)) only [go_sem, k1, k2, k3, k4, cv_i64u64, wl]; (repeat with_reducible refine aI ?_))
      refine DCalls.of_pure (refNum_d v.parts.length hu0) ?_
      (simp (disch := first | decide | omega | (simp only [nx]; first | done | omega)) only [go_sem]; (repeat with_reducible refine aI ?_))
      refine dapp_bytes2 (bs := [vkindB v]) (xs := numB v.parts.length) (.inl rfl) (by simp; omega) ?_
      have hN0 := NewB.grow (S := S.add (.box 29 (encV v).cells)) (T := S.add (.box 29 (encV v).cells)) (own := .full) (own2 := .full) (bs := [vkindB v]) (xs := numB v.parts.length) (hS.add _) (.inl rfl) (Nat.le_refl _) (fun _ _ h => h)
      have hhe : vheadB v = [vkindB v] ++ numB v.parts.length := by unfold vheadB; rw [if_neg (by omega), if_neg (by omega), if_neg (by omega)]; rfl
      rw [← hhe] at hN0 ⊢
      have hg0 : ((S.add (.box 29 (encV v).cells)).grow .full 5 ([vkindB v].length + (numB v.parts.length).length)).WF := (hS.add _).grow _ _ _
      revert hN0 hg0
      generalize St.grow (S.add (.box 29 (encV v).cells)) .full 5 ([vkindB v].length + (numB v.parts.length).length) = T0
      intro hN0 hg0
      (simp (disch := first | decide | omega | (simp only [nx]; first | done | omega)) only [go_sem]; (repeat with_reducible refine aI ?_))
      refine dloop_up (fun t => List.contains [3, 4, 42, 43, 44, 45, 46, 47, 48, 49, 50, 51, 52, 53, 54, 55, 56, 57, 58, 59, 60, 61, 62, 63, 64, 65, 66, 67, 68, 69, 70, 71, 72, 73, 74, 75, 76] t) (by kernel_rfl) (by exact hg0) v.parts.length (fun j g T => j ≤ v.parts.length ∧ g 4 = .v (.int .i64 ((j : Nat) : Int)) ∧ NewB (S.add (.box 29 (encV v).cells)) T (g 3) (vheadB v ++ vpartB m v j))
        ⟨by omega, by (first | (simp (disch := first | decide | omega | (simp only [nx]; first | done | omega)) only [go_sem]; first | done | rfl) | rfl), by rw [show vpartB m v 0 = [] from rfl, List.append_nil]; exact hN0⟩ ?_
      clear hN0 hg0
      rintro j g T hT hg ⟨le, q4, own3, q3, ho, hT1, hT2⟩
      (have q1 := hg 1 rfl; have q2 := hg 2 rfl; simp (disch := first | decide | omega | (simp only [nx]; first | done | omega)) only [go_sem] at q1 q2; clear hg)
      have t1 := hT2 _ _ (add_eq (S := S))
      by_cases hj : j < v.parts.length
      · have b1 : decide ((j : Int) < (v.parts.length : Int)) = true := by simp; omega
        have w1 : IntKind.i64.wrap ((j : Int) + 1) = ((j + 1 : Nat) : Int) := IntWalk.i64_in _ ⟨by omega, by omega⟩
        have hjn : j < v.ids.length := by omega
        have hu : IsU64 v.ids[j] := isU64 (hp.2.2.2.2.2.1 _ (List.getElem_mem hjn))
        have hkey : vkeyB v j = numB v.ids[j] := by unfold vkeyB; rw [if_neg e5]; rw [getD_at hjn]
        have hkl := vkey_len hf ho_ j
        rw [hkey] at hkl
        have hvs := vpartB_succ m v j
        rw [getD_at hj, hkey] at hvs
        have hvl : (vpartB m v j).length ≤ 110 * v.weight + 30 * 12 := by
          have h1 := vpart_len m v j le hd hr ho_
          have h2 : DVal.weights (v.parts.take j) ≤ v.weight := by
            have := v.weight_eq
            have h3 := wts_take v.parts j
            omega
          omega
        (simp (disch := first | decide | omega | (simp only [nx]; first | done | omega)) only [go_sem, q1, q2, q4, q3, t1, b1, kk5, hjn, u64D]; (repeat with_reducible refine aI ?_))
        refine DCalls.of_pure (refNum_d v.ids[j] hu) ?_
        (simp (disch := first | decide | omega | (simp only [nx]; first | done | omega)) only [go_sem, q3]; (repeat with_reducible refine aI ?_))
        refine dapp_bytes2 (bs := vheadB v ++ vpartB m v j) (xs := numB v.ids[j]) (ho.imp id fun ⟨g, h1, _, h2⟩ => ⟨g, h1, h2⟩) (by simp only [List.length_append] at hkl ⊢; omega) ?_
        have hN1 := NewB.grow (own2 := .full) (xs := numB v.ids[j]) (hS.add _) ho hT1 hT2
        have hg1 := hT.grow own3 5 ((vheadB v ++ vpartB m v j).length + (numB v.ids[j]).length)
        revert hN1 hg1
        generalize St.grow T own3 5 ((vheadB v ++ vpartB m v j).length + (numB v.ids[j]).length) = T3
        rintro ⟨own4, q3b, ho4, hT31, hT32⟩ hg1
        rw [q3b]
        have t3 := hT32 _ _ (add_eq (S := S))
        have hmem := List.getElem_mem hj
        have hdj := DVal.depth_part hmem
        have hwj := DVal.weight_part hmem
        have hbj := bytesV_len m v.parts[j] (by omega) (hr.part hmem) (hp.2.2.2.2.2.2.2.2 _ hmem)
        (simp (disch := first | decide | omega | (simp only [nx]; first | done | omega)) only [go_sem, q1, q2, q4, t3, hj]; (repeat with_reducible refine aI ?_))
        refine DCalls.of_pure (ih v.parts[j] (by omega) (hr.part hmem) (hp.2.2.2.2.2.2.2.2 _ hmem) (by omega)) ?_
        (simp (disch := first | decide | omega | (simp only [nx]; first | done | omega)) only [go_sem]; (repeat with_reducible refine aI ?_))
        refine dapp_bytes2 (bs := (vheadB v ++ vpartB m v j) ++ (numB v.ids[j])) (xs := bytesV m v.parts[j]) (ho4.imp id fun ⟨g, h1, _, h2⟩ => ⟨g, h1, h2⟩) (by simp only [List.length_append] at hkl ⊢; omega) ?_
        have hN2 := NewB.grow (own2 := .full) (xs := bytesV m v.parts[j]) (hS.add _) ho4 hT31 hT32
        (simp (disch := first | decide | omega | (simp only [nx]; first | done | omega)) only [go_sem, q4, w1]; (repeat with_reducible refine aI ?_))
        refine ⟨by omega, _, fun _ _ h => h, by omega, by (first | (simp (disch := first | decide | omega | (simp only [nx]; first | done | omega)) only [go_sem]; first | done | rfl) | rfl), ?_⟩
        have e : vheadB v ++ vpartB m v (j + 1) = ((vheadB v ++ vpartB m v j) ++ (numB v.ids[j])) ++ bytesV m v.parts[j] := by rw [hvs]; simp only [List.append_assoc]
        rw [e]
        exact hN2
      · have b1 : decide ((j : Int) < (v.parts.length : Int)) = false := by simp; omega
        have hje : j = v.parts.length := by omega
        subst hje
        (simp (disch := first | decide | omega | (simp only [nx]; first | done | omega)) only [go_sem, q4, q1, q2, t1, b1, q3]; (repeat with_reducible refine aI ?_))
        rw [hbv]
        exact NewB.weak (S1 := S.add (.box 29 (encV v).cells)) ⟨own3, rfl, ho, hT1, hT2⟩ (Nat.le_succ _) (add_keep hS _)
    obtain ⟨s1, s2, s3⟩ := shape_scalar hh e5 e6
    have hvp0 : vpartB m v v.parts.length = [] := by rw [s3]; rfl
    by_cases e1 : v.kind = 1
    · have k1 : (v.kind == 1) = true := by simp [e1]
      by_cases en : v.n = 1
      · have wn : IntKind.u8.wrap v.n = 1 := by rw [en]; decide
        (simp (disch := first | decide | omega | (simp only [nx]; first | done | omega)) only [go_sem, k1, cv_i64u8, wn]; (repeat with_reducible refine aI ?_))
        refine dapp_bytes2 (bs := [vkindB v]) (xs := [1]) (.inl rfl) (by simp) ?_
        (simp (disch := first | decide | omega | (simp only [nx]; first | done | omega)) only [go_sem]; (repeat with_reducible refine aI ?_))
        have := NewB.grow (S := S) (T := S.add (.box 29 (encV v).cells)) (own := .full) (own2 := .full) (bs := [vkindB v]) (xs := [1]) hS (.inl rfl) (Nat.le_succ _) (add_keep hS _)
        rw [hbv, hvp0, List.append_nil, show vheadB v = [vkindB v] ++ [1] from by unfold vheadB; rw [if_pos e1, if_pos en]; rfl]
        exact this
      · have en0 : v.n = 0 := by omega
        have wn : IntKind.u8.wrap v.n = 0 := by rw [en0]; decide
        (simp (disch := first | decide | omega | (simp only [nx]; first | done | omega)) only [go_sem, k1, cv_i64u8, wn]; (repeat with_reducible refine aI ?_))
        refine dapp_bytes2 (bs := [vkindB v]) (xs := [0]) (.inl rfl) (by simp) ?_
        (simp (disch := first | decide | omega | (simp only [nx]; first | done | omega)) only [go_sem]; (repeat with_reducible refine aI ?_))
        have := NewB.grow (S := S) (T := S.add (.box 29 (encV v).cells)) (own := .full) (own2 := .full) (bs := [vkindB v]) (xs := [0]) hS (.inl rfl) (Nat.le_succ _) (add_keep hS _)
        rw [hbv, hvp0, List.append_nil, show vheadB v = [vkindB v] ++ [0] from by unfold vheadB; rw [if_pos e1, if_neg en]; rfl]
        exact this
    have k1 : (v.kind == 1) = false := by simp [e1]
    by_cases e2 : v.kind = 2
    · have k2 : (v.kind == 2) = true := by simp [e2]
      (simp (disch := first | decide | omega | (simp only [nx]; first | done | omega)) only [go_sem, k1, k2]; (repeat with_reducible refine aI ?_))
      refine DCalls.of_pure (refInt_d v.n (isI64 hp.2.1)) ?_
      have hzl := numB_length_le (zig v.n) (zig_u64 v.n (isI64 hp.2.1))
      (simp (disch := first | decide | omega | (simp only [nx]; first | done | omega)) only [go_sem]; (repeat with_reducible refine aI ?_))
      refine dapp_bytes2 (bs := [vkindB v]) (xs := numB (zig v.n)) (.inl rfl) (by simp; omega) ?_
      (simp (disch := first | decide | omega | (simp only [nx]; first | done | omega)) only [go_sem]; (repeat with_reducible refine aI ?_))
      have := NewB.grow (S := S) (T := S.add (.box 29 (encV v).cells)) (own := .full) (own2 := .full) (bs := [vkindB v]) (xs := numB (zig v.n)) hS (.inl rfl) (Nat.le_succ _) (add_keep hS _)
      rw [hbv, hvp0, List.append_nil, show vheadB v = [vkindB v] ++ numB (zig v.n) from by unfold vheadB; rw [if_neg e1, if_pos e2]; rfl]
      exact this
    have k2 : (v.kind == 2) = false := by simp [e2]
    have hsl := hf.s
    have hnl := numB_length_le v.s.length (by omega)
    have hsb : (strB v.s).data.toList = v.s := by simp [strB]
    by_cases e3 : v.kind = 3
    · have k3 : (v.kind == 3) = true := by simp [e3]
      (simp (disch := first | decide | omega | (simp only [nx]; first | done | omega)) only [go_sem, k1, k2, k3, sv, hsb]; (repeat with_reducible refine aI ?_))
      refine DCalls.of_pure (refByt_d .no v.s (by omega)) ?_
      (simp (disch := first | decide | omega | (simp only [nx]; first | done | omega)) only [go_sem]; (repeat with_reducible refine aI ?_))
      refine dapp_bytes2 (bs := [vkindB v]) (xs := numB v.s.length ++ v.s) (.inl rfl) (by simp; omega) ?_
      (simp (disch := first | decide | omega | (simp only [nx]; first | done | omega)) only [go_sem]; (repeat with_reducible refine aI ?_))
      have := NewB.grow (S := S) (T := S.add (.box 29 (encV v).cells)) (own := .full) (own2 := .full) (bs := [vkindB v]) (xs := (numB v.s.length ++ v.s)) hS (.inl rfl) (Nat.le_succ _) (add_keep hS _)
      rw [hbv, hvp0, List.append_nil, show vheadB v = [vkindB v] ++ (numB v.s.length ++ v.s) from by unfold vheadB; rw [if_neg e1, if_neg e2, if_pos (.inl e3)]; rfl]
      exact this
    have k3 : (v.kind == 3) = false := by simp [e3]
    have e4 : v.kind = 4 := by omega
    have k4 : (v.kind == 4) = true := by simp [e4]
    (simp (disch := first | decide | omega | (simp only [nx]; first | done | omega)) only [go_sem, k1, k2, k3, k4, sv, hsb]; (repeat with_reducible refine aI ?_))
    refine DCalls.of_pure (refByt_d .no v.s (by omega)) ?_
    (simp (disch := first | decide | omega | (simp only [nx]; first | done | omega)) only [go_sem]; (repeat with_reducible refine aI ?_))
    refine dapp_bytes2 (bs := [vkindB v]) (xs := numB v.s.length ++ v.s) (.inl rfl) (by simp; omega) ?_
    (simp (disch := first | decide | omega | (simp only [nx]; first | done | omega)) only [go_sem]; (repeat with_reducible refine aI ?_))
    have := NewB.grow (S := S) (T := S.add (.box 29 (encV v).cells)) (own := .full) (own2 := .full) (bs := [vkindB v]) (xs := (numB v.s.length ++ v.s)) hS (.inl rfl) (Nat.le_succ _) (add_keep hS _)
    rw [hbv, hvp0, List.append_nil, show vheadB v = [vkindB v] ++ (numB v.s.length ++ v.s) from by unfold vheadB; rw [if_neg e1, if_neg e2, if_pos (.inr e4)]; rfl]
    exact this
end
end Go.Proofs.YtjjhjhjphhpeiaaGreatDoor

namespace Go.Proofs.YtjjhjhjphhpeiaaGreatDoor
open Go.RowKit
def errD (n : Int) : D := .ifc 62 (.v (.int .i64 n))
def bytesOfV (v : DVal) : List UInt8 := bytesV v.depth v
def encRes (v : DVal) : D :=
  if rightV 5 v = false then .tup [.sl .no [], errD 1]
  else if 4096 < (bytesOfV v).length then .tup [.sl .no [], errD 3]
  else .tup [.sl .no ((bytesOfV v).map bD), .v .nilIface]
theorem closed_bD (l : List UInt8) : allL (fun _ => False) (l.map bD) := allL_iff.2 fun d hd => by
  obtain ⟨b, _, rfl⟩ := List.mem_map.1 hd
  simp [bD, D.all]
theorem frz_bD (l : List UInt8) : frzL (l.map bD) = l.map bD := by
  induction l with
  | nil => rfl
  | cons b l ih => simp only [List.map_cons, frzL, ih]; rfl
theorem encRes_closed (v : DVal) : (encRes v).closed := by
  unfold encRes errD
  split
  · simp [D.closed, D.all, allL, Own.all]
  · split
    · simp [D.closed, D.all, allL, Own.all]
    · simp only [D.closed, D.all, allL, Own.all]
      exact ⟨⟨trivial, closed_bD _⟩, trivial, trivial⟩
set_option maxRecDepth 200000 in
set_option maxHeartbeats 4000000 in
theorem encode_d (v : DVal) (ho : okV v) (hw : v.weight ≤ 100000) : DPure Tryz.prog 53 [encV v] (encRes v) := by
  refine dpure_of_dwp mixed Tryz.func53 rfl (fun _ _ => by kernel_rfl) (rs := [.tmp 2, .tmp 3]) rfl (by kernel_rfl) (encRes_closed v) (fun S hS => ?_)
  (simp (disch := first | decide | omega | (simp only [nx]; first | done | omega)) only [go_sem]; (repeat with_reducible refine aI ?_))
  refine DCalls.of_pure (valRight_d v ho) ?_
  cases hR : rightV 5 v
  · (simp (disch := first | decide | omega | (simp only [nx]; first | done | omega)) only [go_sem]; (repeat with_reducible refine aI ?_))
    refine ⟨?_, (by (repeat' first | assumption | exact St.Sub.refl _ | exact RowOk.sub (by assumption) (by assumption) | refine St.Sub.trans ?_ (RowOk.sub (by assumption) (by assumption)) | refine St.Sub.add ?_ ?_ _ | refine St.Sub.set ?_ ?_ ?_ _ | refine St.Sub.keep ?_ ?_ | refine St.WF.leave ?_ _ | refine St.WF.add ?_ _ | refine St.WF.set ?_ ?_ _ | refine St.WF.grow ?_ _ _ _ | refine St.WF.keep ?_ ?_ | (first | omega | (simp only [RowOk.lo, nx]; first | done | omega))))⟩
    rw [encRes, if_pos hR]
    rfl
  · have hr := RV.of_right hR
    (simp (disch := first | decide | omega | (simp only [nx]; first | done | omega)) only [go_sem]; (repeat with_reducible refine aI ?_))
    refine (valWrite_w v.depth v (k := S.next + 1) (bs := []) (Nat.le_refl _) hr ho hw (by simp only [add_next]; omega) ⟨.full, by (first | (simp (disch := first | decide | omega | (simp only [nx]; first | done | omega)) only [go_sem]; first | done | rfl) | rfl), .inl ⟨rfl, rfl⟩⟩ (by simp; omega)).wf.mono ?_
    rintro _ T ⟨⟨rfl, hW, hF⟩, hT⟩
    have hbl := bytesV_len v.depth v (Nat.le_refl _) hr ho
    rw [List.nil_append] at hW
    (simp (disch := first | decide | omega | (simp only [nx]; first | done | omega)) only [go_sem]; (repeat with_reducible refine aI ?_))
    refine (out_w hW (by omega)).wf.mono ?_
    rintro _ T1 ⟨⟨o, rfl, hW1, hF1⟩, hT1⟩
    have hsub : S.Sub T1 := by
      have h1 := hF.trans hF1
      have hn := h1.next
      simp only [add_next] at hn
      exact ⟨by omega, fun j o' hj => h1.ob j o' (.inl (by have := hS.lt hj; omega)) (by have := hS.lt hj; rw [ob_skip (by simp only [add_next]; omega), ob_skip (by omega)]; exact hj)⟩
    by_cases h4 : 4096 < (bytesV v.depth v).length
    · have b1 : decide ((4096 : Int) < ((bytesV v.depth v).length : Int)) = true := by simp; omega
      (simp (disch := first | decide | omega | (simp only [nx]; first | done | omega)) only [go_sem, b1]; (repeat with_reducible refine aI ?_))
      refine ⟨?_, hsub⟩
      rw [encRes, if_neg (by rw [hR]; simp), if_pos (show 4096 < (bytesOfV v).length from h4)]
      rfl
    · have b1 : decide ((4096 : Int) < ((bytesV v.depth v).length : Int)) = false := by simp; omega
      (simp (disch := first | decide | omega | (simp only [nx]; first | done | omega)) only [go_sem, b1]; (repeat with_reducible refine aI ?_))
      refine ⟨?_, hsub⟩
      rw [encRes, if_neg (by rw [hR]; simp), if_neg (show ¬ 4096 < (bytesOfV v).length from h4)]
      simp only [D.frz, frzL, frz_bD]
      rfl
end Go.Proofs.YtjjhjhjphhpeiaaGreatDoor

namespace Go.Proofs.YtjjhjhjphhpeiaaGreatDoor
open Go.RowKit
def valued (k : Int) : Bool := decide (k = 1) || decide (k = 2)
theorem refValued_d (k : Int) : DPure Tryz.prog 50 [.v (.int .i64 k)] (.v (.bool (valued k))) := by
  refine dpure_of_dwp mixed Tryz.func50 rfl (fun _ _ => by kernel_rfl) (rs := [.tmp 2]) rfl (by kernel_rfl) trivial (fun S hS => ?_)
  by_cases k1 : k = 1
  · have c1 : (k == 1) = true := by simp [k1]
    (simp (disch := first | decide | omega | (simp only [nx]; first | done | omega)) only [go_sem, c1]; (repeat with_reducible refine aI ?_))
    refine ⟨?_, (by (repeat' first | assumption | exact St.Sub.refl _ | exact RowOk.sub (by assumption) (by assumption) | refine St.Sub.trans ?_ (RowOk.sub (by assumption) (by assumption)) | refine St.Sub.add ?_ ?_ _ | refine St.Sub.set ?_ ?_ ?_ _ | refine St.Sub.keep ?_ ?_ | refine St.WF.leave ?_ _ | refine St.WF.add ?_ _ | refine St.WF.set ?_ ?_ _ | refine St.WF.grow ?_ _ _ _ | refine St.WF.keep ?_ ?_ | (first | omega | (simp only [RowOk.lo, nx]; first | done | omega))))⟩
    rw [show valued k = true from by simp [valued, k1]]; rfl
  · have c1 : (k == 1) = false := by simp [k1]
    by_cases k2 : k = 2
    · have c2 : (k == 2) = true := by simp [k2]
      (simp (disch := first | decide | omega | (simp only [nx]; first | done | omega)) only [go_sem, c1, c2]; (repeat with_reducible refine aI ?_))
      refine ⟨?_, (by (repeat' first | assumption | exact St.Sub.refl _ | exact RowOk.sub (by assumption) (by assumption) | refine St.Sub.trans ?_ (RowOk.sub (by assumption) (by assumption)) | refine St.Sub.add ?_ ?_ _ | refine St.Sub.set ?_ ?_ ?_ _ | refine St.Sub.keep ?_ ?_ | refine St.WF.leave ?_ _ | refine St.WF.add ?_ _ | refine St.WF.set ?_ ?_ _ | refine St.WF.grow ?_ _ _ _ | refine St.WF.keep ?_ ?_ | (first | omega | (simp only [RowOk.lo, nx]; first | done | omega))))⟩
      rw [show valued k = true from by simp [valued, k2]]; rfl
    · have c2 : (k == 2) = false := by simp [k2]
      (simp (disch := first | decide | omega | (simp only [nx]; first | done | omega)) only [go_sem, c1, c2]; (repeat with_reducible refine aI ?_))
      refine ⟨?_, (by (repeat' first | assumption | exact St.Sub.refl _ | exact RowOk.sub (by assumption) (by assumption) | refine St.Sub.trans ?_ (RowOk.sub (by assumption) (by assumption)) | refine St.Sub.add ?_ ?_ _ | refine St.Sub.set ?_ ?_ ?_ _ | refine St.Sub.keep ?_ ?_ | refine St.WF.leave ?_ _ | refine St.WF.add ?_ _ | refine St.WF.set ?_ ?_ _ | refine St.WF.grow ?_ _ _ _ | refine St.WF.keep ?_ ?_ | (first | omega | (simp only [RowOk.lo, nx]; first | done | omega))))⟩
      rw [show valued k = false from by simp [valued, k1, k2]]; rfl
theorem rightO_kind {o : DOp} (h : o.kind < 1 ∨ 4 < o.kind) : rightO o = false := by
  rw [rightO, if_neg (by omega), if_neg (by omega), if_neg (by omega), if_neg (by omega), Bool.and_false]
theorem ne_swap (o : DOp) : ((o.after : Int) != (o.id : Int)) = ((o.id : Int) != (o.after : Int)) := by
  rw [u64_dne, u64_dne]; exact decide_eq_decide.2 ⟨fun h e => h e.symm, fun h e => h e.symm⟩
set_option maxRecDepth 200000 in
set_option maxHeartbeats 8000000 in
theorem refOpRight_d (o : DOp) (h : OkO o) : DPure Tryz.prog 20 [encO o] (.v (.bool (rightO o))) := by
  have hwt := h.wt
  have hpl := h.path
  have hdw := DVal.depth_weight o.val.depth o.val (Nat.le_refl _)
  refine dpure_of_dwp mixed Tryz.func20 rfl (fun _ _ => by kernel_rfl) (rs := [.tmp 2]) rfl (by kernel_rfl) trivial (fun S hS => ?_)
  by_cases r1 : o.kind < 1
  · have c1 : decide (o.kind < 1) = true := by simp [r1]
    (simp (disch := first | decide | omega | (simp only [nx]; first | done | omega)) only [go_sem, opCs, c1]; (repeat with_reducible refine aI ?_))
    refine ⟨?_, (by (repeat' first | assumption | exact St.Sub.refl _ | exact RowOk.sub (by assumption) (by assumption) | refine St.Sub.trans ?_ (RowOk.sub (by assumption) (by assumption)) | refine St.Sub.add ?_ ?_ _ | refine St.Sub.set ?_ ?_ ?_ _ | refine St.Sub.keep ?_ ?_ | refine St.WF.leave ?_ _ | refine St.WF.add ?_ _ | refine St.WF.set ?_ ?_ _ | refine St.WF.grow ?_ _ _ _ | refine St.WF.keep ?_ ?_ | (first | omega | (simp only [RowOk.lo, nx]; first | done | omega))))⟩
    rw [rightO_kind (.inl r1)]; rfl
  have c1 : decide (o.kind < 1) = false := by simp; omega
  by_cases r2 : 4 < o.kind
  · have c2 : decide (4 < o.kind) = true := by simp [r2]
    (simp (disch := first | decide | omega | (simp only [nx]; first | done | omega)) only [go_sem, opCs, c1, c2]; (repeat with_reducible refine aI ?_))
    refine ⟨?_, (by (repeat' first | assumption | exact St.Sub.refl _ | exact RowOk.sub (by assumption) (by assumption) | refine St.Sub.trans ?_ (RowOk.sub (by assumption) (by assumption)) | refine St.Sub.add ?_ ?_ _ | refine St.Sub.set ?_ ?_ ?_ _ | refine St.Sub.keep ?_ ?_ | refine St.WF.leave ?_ _ | refine St.WF.add ?_ _ | refine St.WF.set ?_ ?_ _ | refine St.WF.grow ?_ _ _ _ | refine St.WF.keep ?_ ?_ | (first | omega | (simp only [RowOk.lo, nx]; first | done | omega))))⟩
    rw [rightO_kind (.inr r2)]; rfl
  have c2 : decide (4 < o.kind) = false := by simp; omega
  (simp (disch := first | decide | omega | (simp only [nx]; first | done | omega)) only [go_sem, opCs, c1, c2]; (repeat with_reducible refine aI ?_))
  refine DCalls.of_pure (refRight_d .no o.path (by omega) h.names) ?_
  cases hp : rightP o.path with
  | false =>
    (simp (disch := first | decide | omega | (simp only [nx]; first | done | omega)) only [go_sem]; (repeat with_reducible refine aI ?_))
    refine ⟨?_, (by (repeat' first | assumption | exact St.Sub.refl _ | exact RowOk.sub (by assumption) (by assumption) | refine St.Sub.trans ?_ (RowOk.sub (by assumption) (by assumption)) | refine St.Sub.add ?_ ?_ _ | refine St.Sub.set ?_ ?_ ?_ _ | refine St.Sub.keep ?_ ?_ | refine St.WF.leave ?_ _ | refine St.WF.add ?_ _ | refine St.WF.set ?_ ?_ _ | refine St.WF.grow ?_ _ _ _ | refine St.WF.keep ?_ ?_ | (first | omega | (simp only [RowOk.lo, nx]; first | done | omega))))⟩
    rw [rightO, hp]; rfl
  | true =>
  have hsm := refSameV_d o.val zeroV h.val zeroV_ok
  have hv := refValRight_d o.val h.val (by omega)
  (simp (disch := first | decide | omega | (simp only [nx]; first | done | omega)) only [go_sem]; (repeat with_reducible refine aI ?_))
  refine DCalls.of_pure (refValued_d o.kind) ?_
  by_cases kv : o.kind = 1 ∨ o.kind = 2
  · have ev : valued o.kind = true := by simp [valued, kv]
    (simp (disch := first | decide | omega | (simp only [nx]; first | done | omega)) only [go_sem, ev]; (repeat with_reducible refine aI ?_))
    refine DCalls.of_pure hv ?_
    cases hr : rightV 5 o.val with
    | false =>
      (simp (disch := first | decide | omega | (simp only [nx]; first | done | omega)) only [go_sem]; (repeat with_reducible refine aI ?_))
      refine ⟨?_, (by (repeat' first | assumption | exact St.Sub.refl _ | exact RowOk.sub (by assumption) (by assumption) | refine St.Sub.trans ?_ (RowOk.sub (by assumption) (by assumption)) | refine St.Sub.add ?_ ?_ _ | refine St.Sub.set ?_ ?_ ?_ _ | refine St.Sub.keep ?_ ?_ | refine St.WF.leave ?_ _ | refine St.WF.add ?_ _ | refine St.WF.set ?_ ?_ _ | refine St.WF.grow ?_ _ _ _ | refine St.WF.keep ?_ ?_ | (first | omega | (simp only [RowOk.lo, nx]; first | done | omega))))⟩
      rcases kv with k | k
      · rw [rightO, hp, if_pos k, hr]; simp; rfl
      · rw [rightO, hp, if_neg (by omega), if_pos k, hr]; simp; rfl
    | true =>
    (simp (disch := first | decide | omega | (simp only [nx]; first | done | omega)) only [go_sem]; (repeat with_reducible refine aI ?_))
    refine DCalls.of_pure (refValued_d o.kind) ?_
    rcases kv with k1 | k2
    · have c1 : (o.kind == 1) = true := by simp [k1]
      by_cases i0 : o.id = 0
      · by_cases a0 : o.after = 0
        · have d1 := decide_eq_true i0
          have d2 := decide_eq_true a0
          (simp (disch := first | decide | omega | (simp only [nx]; first | done | omega)) only [go_sem, ev, c1, u64_d0, d1, d2]; (repeat with_reducible refine aI ?_))
          refine ⟨?_, (by (repeat' first | assumption | exact St.Sub.refl _ | exact RowOk.sub (by assumption) (by assumption) | refine St.Sub.trans ?_ (RowOk.sub (by assumption) (by assumption)) | refine St.Sub.add ?_ ?_ _ | refine St.Sub.set ?_ ?_ ?_ _ | refine St.Sub.keep ?_ ?_ | refine St.WF.leave ?_ _ | refine St.WF.add ?_ _ | refine St.WF.set ?_ ?_ _ | refine St.WF.grow ?_ _ _ _ | refine St.WF.keep ?_ ?_ | (first | omega | (simp only [RowOk.lo, nx]; first | done | omega))))⟩
          rw [rightO, hp, if_pos k1, d1, d2, hr]; rfl
        · have d1 := decide_eq_true i0
          have d2 := decide_eq_false a0
          (simp (disch := first | decide | omega | (simp only [nx]; first | done | omega)) only [go_sem, ev, c1, u64_d0, d1, d2]; (repeat with_reducible refine aI ?_))
          refine ⟨?_, (by (repeat' first | assumption | exact St.Sub.refl _ | exact RowOk.sub (by assumption) (by assumption) | refine St.Sub.trans ?_ (RowOk.sub (by assumption) (by assumption)) | refine St.Sub.add ?_ ?_ _ | refine St.Sub.set ?_ ?_ ?_ _ | refine St.Sub.keep ?_ ?_ | refine St.WF.leave ?_ _ | refine St.WF.add ?_ _ | refine St.WF.set ?_ ?_ _ | refine St.WF.grow ?_ _ _ _ | refine St.WF.keep ?_ ?_ | (first | omega | (simp only [RowOk.lo, nx]; first | done | omega))))⟩
          rw [rightO, hp, if_pos k1, d1, d2]; rfl
      · have d1 := decide_eq_false i0
        (simp (disch := first | decide | omega | (simp only [nx]; first | done | omega)) only [go_sem, ev, c1, u64_d0, d1]; (repeat with_reducible refine aI ?_))
        refine ⟨?_, (by (repeat' first | assumption | exact St.Sub.refl _ | exact RowOk.sub (by assumption) (by assumption) | refine St.Sub.trans ?_ (RowOk.sub (by assumption) (by assumption)) | refine St.Sub.add ?_ ?_ _ | refine St.Sub.set ?_ ?_ ?_ _ | refine St.Sub.keep ?_ ?_ | refine St.WF.leave ?_ _ | refine St.WF.add ?_ _ | refine St.WF.set ?_ ?_ _ | refine St.WF.grow ?_ _ _ _ | refine St.WF.keep ?_ ?_ | (first | omega | (simp only [RowOk.lo, nx]; first | done | omega))))⟩
        rw [rightO, hp, if_pos k1, d1]; rfl
    · have c1 : (o.kind == 1) = false := by simp [k2]
      have c3 : (o.kind == 3) = false := by simp [k2]
      by_cases i0 : o.id ≠ 0
      · by_cases a0 : o.id ≠ o.after
        · have d1 := decide_eq_true i0
          have d2 := decide_eq_true a0
          (simp (disch := first | decide | omega | (simp only [nx]; first | done | omega)) only [go_sem, ev, c1, c3, u64_n0, ne_swap o, u64_dne, d1, d2]; (repeat with_reducible refine aI ?_))
          refine ⟨?_, (by (repeat' first | assumption | exact St.Sub.refl _ | exact RowOk.sub (by assumption) (by assumption) | refine St.Sub.trans ?_ (RowOk.sub (by assumption) (by assumption)) | refine St.Sub.add ?_ ?_ _ | refine St.Sub.set ?_ ?_ ?_ _ | refine St.Sub.keep ?_ ?_ | refine St.WF.leave ?_ _ | refine St.WF.add ?_ _ | refine St.WF.set ?_ ?_ _ | refine St.WF.grow ?_ _ _ _ | refine St.WF.keep ?_ ?_ | (first | omega | (simp only [RowOk.lo, nx]; first | done | omega))))⟩
          rw [rightO, hp, if_neg (by omega), if_pos k2, d1, d2, hr]; rfl
        · have d1 := decide_eq_true i0
          have d2 := decide_eq_false a0
          (simp (disch := first | decide | omega | (simp only [nx]; first | done | omega)) only [go_sem, ev, c1, c3, u64_n0, ne_swap o, u64_dne, d1, d2]; (repeat with_reducible refine aI ?_))
          refine ⟨?_, (by (repeat' first | assumption | exact St.Sub.refl _ | exact RowOk.sub (by assumption) (by assumption) | refine St.Sub.trans ?_ (RowOk.sub (by assumption) (by assumption)) | refine St.Sub.add ?_ ?_ _ | refine St.Sub.set ?_ ?_ ?_ _ | refine St.Sub.keep ?_ ?_ | refine St.WF.leave ?_ _ | refine St.WF.add ?_ _ | refine St.WF.set ?_ ?_ _ | refine St.WF.grow ?_ _ _ _ | refine St.WF.keep ?_ ?_ | (first | omega | (simp only [RowOk.lo, nx]; first | done | omega))))⟩
          rw [rightO, hp, if_neg (by omega), if_pos k2, d1, d2]; rfl
      · have d1 := decide_eq_false i0
        (simp (disch := first | decide | omega | (simp only [nx]; first | done | omega)) only [go_sem, ev, c1, c3, u64_n0, d1]; (repeat with_reducible refine aI ?_))
        refine ⟨?_, (by (repeat' first | assumption | exact St.Sub.refl _ | exact RowOk.sub (by assumption) (by assumption) | refine St.Sub.trans ?_ (RowOk.sub (by assumption) (by assumption)) | refine St.Sub.add ?_ ?_ _ | refine St.Sub.set ?_ ?_ ?_ _ | refine St.Sub.keep ?_ ?_ | refine St.WF.leave ?_ _ | refine St.WF.add ?_ _ | refine St.WF.set ?_ ?_ _ | refine St.WF.grow ?_ _ _ _ | refine St.WF.keep ?_ ?_ | (first | omega | (simp only [RowOk.lo, nx]; first | done | omega))))⟩
        rw [rightO, hp, if_neg (by omega), if_pos k2, d1]; rfl
  · have ev : valued o.kind = false := by simp [valued]; omega
    have k1 : ¬ o.kind = 1 := by omega
    have k2 : ¬ o.kind = 2 := by omega
    have c1 : (o.kind == 1) = false := by simp [k1]
    (simp (disch := first | decide | omega | (simp only [nx]; first | done | omega)) only [go_sem, ev]; (repeat with_reducible refine aI ?_))
    refine DCalls.of_pure (refValued_d o.kind) ?_
    (simp (disch := first | decide | omega | (simp only [nx]; first | done | omega)) only [go_sem, ev]; (repeat with_reducible refine aI ?_))
    refine DCalls.of_pure (DPure.weak hsm (by simp only [frzL, frz_encV]; rfl)) ?_
    cases hs : eqB o.val zeroV with
    | false =>
      (simp (disch := first | decide | omega | (simp only [nx]; first | done | omega)) only [go_sem]; (repeat with_reducible refine aI ?_))
      refine ⟨?_, (by (repeat' first | assumption | exact St.Sub.refl _ | exact RowOk.sub (by assumption) (by assumption) | refine St.Sub.trans ?_ (RowOk.sub (by assumption) (by assumption)) | refine St.Sub.add ?_ ?_ _ | refine St.Sub.set ?_ ?_ ?_ _ | refine St.Sub.keep ?_ ?_ | refine St.WF.leave ?_ _ | refine St.WF.add ?_ _ | refine St.WF.set ?_ ?_ _ | refine St.WF.grow ?_ _ _ _ | refine St.WF.keep ?_ ?_ | (first | omega | (simp only [RowOk.lo, nx]; first | done | omega))))⟩
      by_cases k : o.kind = 3
      · rw [rightO, hp, if_neg k1, if_neg k2, if_pos k, hs]; simp; rfl
      · rw [rightO, hp, if_neg k1, if_neg k2, if_neg k, if_pos (by omega), hs]; simp; rfl
    | true =>
    by_cases k3 : o.kind = 3
    · have c3 : (o.kind == 3) = true := by simp [k3]
      by_cases i0 : o.id ≠ 0
      · by_cases a0 : o.after = 0
        · have d1 := decide_eq_true i0
          have d2 := decide_eq_true a0
          (simp (disch := first | decide | omega | (simp only [nx]; first | done | omega)) only [go_sem, ev, c1, c3, u64_n0, u64_d0, d1, d2]; (repeat with_reducible refine aI ?_))
          refine ⟨?_, (by (repeat' first | assumption | exact St.Sub.refl _ | exact RowOk.sub (by assumption) (by assumption) | refine St.Sub.trans ?_ (RowOk.sub (by assumption) (by assumption)) | refine St.Sub.add ?_ ?_ _ | refine St.Sub.set ?_ ?_ ?_ _ | refine St.Sub.keep ?_ ?_ | refine St.WF.leave ?_ _ | refine St.WF.add ?_ _ | refine St.WF.set ?_ ?_ _ | refine St.WF.grow ?_ _ _ _ | refine St.WF.keep ?_ ?_ | (first | omega | (simp only [RowOk.lo, nx]; first | done | omega))))⟩
          rw [rightO, hp, if_neg k1, if_neg k2, if_pos k3, d1, d2, hs]; rfl
        · have d1 := decide_eq_true i0
          have d2 := decide_eq_false a0
          (simp (disch := first | decide | omega | (simp only [nx]; first | done | omega)) only [go_sem, ev, c1, c3, u64_n0, u64_d0, d1, d2]; (repeat with_reducible refine aI ?_))
          refine ⟨?_, (by (repeat' first | assumption | exact St.Sub.refl _ | exact RowOk.sub (by assumption) (by assumption) | refine St.Sub.trans ?_ (RowOk.sub (by assumption) (by assumption)) | refine St.Sub.add ?_ ?_ _ | refine St.Sub.set ?_ ?_ ?_ _ | refine St.Sub.keep ?_ ?_ | refine St.WF.leave ?_ _ | refine St.WF.add ?_ _ | refine St.WF.set ?_ ?_ _ | refine St.WF.grow ?_ _ _ _ | refine St.WF.keep ?_ ?_ | (first | omega | (simp only [RowOk.lo, nx]; first | done | omega))))⟩
          rw [rightO, hp, if_neg k1, if_neg k2, if_pos k3, d1, d2]; rfl
      · have d1 := decide_eq_false i0
        (simp (disch := first | decide | omega | (simp only [nx]; first | done | omega)) only [go_sem, ev, c1, c3, u64_n0, u64_d0, d1]; (repeat with_reducible refine aI ?_))
        refine ⟨?_, (by (repeat' first | assumption | exact St.Sub.refl _ | exact RowOk.sub (by assumption) (by assumption) | refine St.Sub.trans ?_ (RowOk.sub (by assumption) (by assumption)) | refine St.Sub.add ?_ ?_ _ | refine St.Sub.set ?_ ?_ ?_ _ | refine St.Sub.keep ?_ ?_ | refine St.WF.leave ?_ _ | refine St.WF.add ?_ _ | refine St.WF.set ?_ ?_ _ | refine St.WF.grow ?_ _ _ _ | refine St.WF.keep ?_ ?_ | (first | omega | (simp only [RowOk.lo, nx]; first | done | omega))))⟩
        rw [rightO, hp, if_neg k1, if_neg k2, if_pos k3, d1]; rfl
    · have c3 : (o.kind == 3) = false := by simp [k3]
      have k4 : o.kind = 4 := by omega
      by_cases i0 : o.id ≠ 0
      · by_cases a0 : o.id ≠ o.after
        · have d1 := decide_eq_true i0
          have d2 := decide_eq_true a0
          (simp (disch := first | decide | omega | (simp only [nx]; first | done | omega)) only [go_sem, ev, c1, c3, u64_n0, ne_swap o, u64_dne, d1, d2]; (repeat with_reducible refine aI ?_))
          refine ⟨?_, (by (repeat' first | assumption | exact St.Sub.refl _ | exact RowOk.sub (by assumption) (by assumption) | refine St.Sub.trans ?_ (RowOk.sub (by assumption) (by assumption)) | refine St.Sub.add ?_ ?_ _ | refine St.Sub.set ?_ ?_ ?_ _ | refine St.Sub.keep ?_ ?_ | refine St.WF.leave ?_ _ | refine St.WF.add ?_ _ | refine St.WF.set ?_ ?_ _ | refine St.WF.grow ?_ _ _ _ | refine St.WF.keep ?_ ?_ | (first | omega | (simp only [RowOk.lo, nx]; first | done | omega))))⟩
          rw [rightO, hp, if_neg k1, if_neg k2, if_neg k3, if_pos k4, d1, d2, hs]; rfl
        · have d1 := decide_eq_true i0
          have d2 := decide_eq_false a0
          (simp (disch := first | decide | omega | (simp only [nx]; first | done | omega)) only [go_sem, ev, c1, c3, u64_n0, ne_swap o, u64_dne, d1, d2]; (repeat with_reducible refine aI ?_))
          refine ⟨?_, (by (repeat' first | assumption | exact St.Sub.refl _ | exact RowOk.sub (by assumption) (by assumption) | refine St.Sub.trans ?_ (RowOk.sub (by assumption) (by assumption)) | refine St.Sub.add ?_ ?_ _ | refine St.Sub.set ?_ ?_ ?_ _ | refine St.Sub.keep ?_ ?_ | refine St.WF.leave ?_ _ | refine St.WF.add ?_ _ | refine St.WF.set ?_ ?_ _ | refine St.WF.grow ?_ _ _ _ | refine St.WF.keep ?_ ?_ | (first | omega | (simp only [RowOk.lo, nx]; first | done | omega))))⟩
          rw [rightO, hp, if_neg k1, if_neg k2, if_neg k3, if_pos k4, d1, d2]; rfl
      · have d1 := decide_eq_false i0
        (simp (disch := first | decide | omega | (simp only [nx]; first | done | omega)) only [go_sem, ev, c1, c3, u64_n0, d1]; (repeat with_reducible refine aI ?_))
        refine ⟨?_, (by (repeat' first | assumption | exact St.Sub.refl _ | exact RowOk.sub (by assumption) (by assumption) | refine St.Sub.trans ?_ (RowOk.sub (by assumption) (by assumption)) | refine St.Sub.add ?_ ?_ _ | refine St.Sub.set ?_ ?_ ?_ _ | refine St.Sub.keep ?_ ?_ | refine St.WF.leave ?_ _ | refine St.WF.add ?_ _ | refine St.WF.set ?_ ?_ _ | refine St.WF.grow ?_ _ _ _ | refine St.WF.keep ?_ ?_ | (first | omega | (simp only [RowOk.lo, nx]; first | done | omega))))⟩
        rw [rightO, hp, if_neg k1, if_neg k2, if_neg k3, if_pos k4, d1]; rfl
end Go.Proofs.YtjjhjhjphhpeiaaGreatDoor

namespace Go.Proofs.YtjjhjhjphhpeiaaGreatDoor
open Go.RowKit Go.Extern.Stop Go.Stop Go.Extern
/-! The value that a tree without memory stands for. -/
mutual
def D.val : D → Option Value
  | .v x => some x
  | .ifc t d => (D.val d).map (Value.iface t ·)
  | .agg cs => (valL cs).bind fun vs => bif vs.all (·.oneCell') then some (.agg vs.toArray) else none
  | _ => none
def valL : List D → Option (List Value)
  | [] => some []
  | d :: l => (D.val d).bind fun x => (valL l).map (x :: ·)
end
section
variable {P : Program} {w : World} {η : Names} {X : Nat → Nat → Prop}
mutual
theorem rep_val_iff : ∀ {d : D} {x : Value}, D.val d = some x → ∀ {y : Value}, Rep P w η X d y ↔ y = x
  | .v x, _, h, y => by simp only [D.val, Option.some.injEq] at h; subst h; simp only [Rep]
  | .ifc t d, _, h, y => by
    simp only [D.val, Option.map_eq_some_iff] at h
    obtain ⟨z, h1, rfl⟩ := h
    simp only [Rep]
    constructor
    · rintro ⟨u, rfl, hu⟩
      rw [(rep_val_iff h1).1 hu]
    · rintro rfl
      exact ⟨z, rfl, (rep_val_iff h1).2 rfl⟩
  | .agg cs, _, h, y => by
    simp only [D.val, Option.bind_eq_some_iff] at h
    obtain ⟨vs, h1, h2⟩ := h
    cases hb : vs.all (·.oneCell') with
    | false => rw [hb] at h2; cases h2
    | true =>
      rw [hb] at h2
      simp only [cond_true, Option.some.injEq] at h2
      subst h2
      simp only [Rep]
      constructor
      · rintro ⟨us, rfl, hu, _⟩
        rw [(rep_valL_iff h1).1 hu]
      · rintro rfl
        exact ⟨vs, rfl, (rep_valL_iff h1).2 rfl, fun u hu => List.all_eq_true.1 hb u hu⟩
  | .tup _, _, h, _ => by simp [D.val] at h
  | .fn _ _ _, _, h, _ => by simp [D.val] at h
  | .loc _ _, _, h, _ => by simp [D.val] at h
  | .rd _ _, _, h, _ => by simp [D.val] at h
  | .sl _ _, _, h, _ => by simp [D.val] at h
  | .win _ _ _ _, _, h, _ => by simp [D.val] at h
theorem rep_valL_iff : ∀ {l : List D} {vs : List Value}, valL l = some vs → ∀ {us : List Value}, RepL P w η X l us ↔ us = vs
  | [], _, h, us => by simp only [valL, Option.some.injEq] at h; subst h; simp only [RepL]
  | d :: l, _, h, us => by
    simp only [valL, Option.bind_eq_some_iff, Option.map_eq_some_iff] at h
    obtain ⟨x, h1, xs, h2, rfl⟩ := h
    simp only [RepL]
    constructor
    · rintro ⟨y, ys, rfl, hy, hys⟩
      rw [(rep_val_iff h1).1 hy, (rep_valL_iff h2).1 hys]
    · rintro rfl
      exact ⟨x, xs, rfl, (rep_val_iff h1).2 rfl, (rep_valL_iff h2).2 rfl⟩
end
end
section
variable {P : Program} {S : St} {K : D → St → Prop}
theorem dext {g : FuncId} {fn : Func} {e : Array Value → Sem Value} (hf : P.funcs[g]? = some fn) (hname : (fn.name == "runtime.NumGoroutine") = false) (hb : fn.body.isNone = true) (hn : Extern.findNext fn = none) (hx : Extern.find fn = some e) {args : List D}
    (h : ∀ base η w vs, Mem P base S η w → RepL P w η (Fix P S η) args vs → ∃ d S' η' v w', (e vs.toArray).run P w = .ok v w' ∧ K d S' ∧ Rep P w' η' (Fix P S' η') d v ∧ Goes P base S η w S' η' w') : DCalls P g args S K := fun base η w vs hM hr => by
  obtain ⟨d, S', η', v, w', h1, h2, h3, h4⟩ := h base η w vs hM hr
  refine .inr ⟨d, S', η', v, w', ?_, h2, h3, h4⟩
  rw [run_callFunc_extern hf hname hb hn hx, h1]
  rfl
theorem dext_pure {g : FuncId} {fn : Func} {e : Array Value → Sem Value} (hf : P.funcs[g]? = some fn) (hname : (fn.name == "runtime.NumGoroutine") = false) (hb : fn.body.isNone = true) (hn : Extern.findNext fn = none) (hx : Extern.find fn = some e) {args : List D} {us : List Value} {r : Value} {d : D}
    (hv : valL args = some us) (h : ∀ w, (e us.toArray).run P w = .ok r w) (hd : D.val d = some r) (hk : K d S) : DCalls P g args S K :=
  dext hf hname hb hn hx fun base η w vs hM hr => by
    rw [(rep_valL_iff hv).1 hr]
    exact ⟨d, S, η, r, w, h w, hk, (rep_val_iff hd).2 rfl, Goes.refl hM⟩
theorem dmeth_pure {t : TypeId} {d d' : D} {m : String} {g : FuncId} {x r : Value} (hd : D.val d = some x) (hd' : D.val d' = some r) (h : ∀ w, (method (P.types.size + Made.depth) t x m).run P w = .ok (g, r) w) : DMeth P t d m g d' := fun w η X v hr => by
  rw [(rep_val_iff hd).1 hr]
  exact ⟨r, h w, (rep_val_iff hd').2 rfl⟩
end
abbrev tyV (t : TypeId) : Value := .pointer (some ⟨1, t, none⟩)
abbrev tyD (t : TypeId) : D := .agg [.v (tyV t)]
abbrev rtD (t : TypeId) : D := .ifc 152 (tyD t)
theorem rlm (z : Sem Value) (f : TypeId → Addr → Nat → Nat → Sem Value) (v : Value) :
    ReflectliteValue.method z f #[v] = (do match ← ReflectliteValue.parts v with | none => z | some (t, a, fl) => f t a fl (fl % 32)) := rfl
theorem rls (v x : Value) : ReflectliteValue.set #[v, x] = (do
    let (some (dst, a, fl), some (src, b, _)) := (← ReflectliteValue.parts v, ← ReflectliteValue.parts x)
      | unsupported (.noEntry "extern/(internal/reflectlite.Value).Set.zeroValue")
    if fl / ReflectliteValue.flagAddr % 2 == 0 then unsupported (.noEntry "extern/(internal/reflectlite.Value).Set.unaddressable")
    let val ← loadVar src b
    if ← Rtype.directlyAssignable dst src then storeVar dst a val
    else if ← Rtype.implements dst src then
      if (← Rtype.kind src) == 20 then
        match val with
        | .nilIface => unsupported (.noEntry "extern/reflectlite: a nil value of one interface type handed on as a value of another")
        | _ => storeVar dst a val
      else storeVar dst a (.iface src val)
    else panicString ("reflectlite.Set: value of type " ++ (← Rtype.spelt src) ++ " is not assignable to type " ++ (← Rtype.spelt dst))
    pure (.tuple #[])) := rfl

section
variable {S : St} {K : D → St → Prop}
theorem unpackPEr (a : Addr) (w : World) : (ReflectliteValue.unpack (.iface 69 (.pointer (some a)))).run Tryz.prog w = .ok (.agg #[tyV 69, .pointer (some ⟨w.heap.size, 0, none⟩), .int .u64 150]) (w.alloc (.cells #[.pointer (some a)] 69)) := by kernel_rfl
theorem rlValueOfPEr {k off : Nat} (h : K (.agg [.v (tyV 69), .loc S.next 0, .v (.int .u64 150)]) (S.add (.box 69 [.loc k off]))) : DCalls Tryz.prog 69 [.ifc 69 (.loc k off)] S K :=
  dext (e := fun args => ReflectliteValue.unpack (args.getD 0 (.tuple #[]))) Tryz.func69 (by kernel_rfl) (by kernel_rfl) (by kernel_rfl) (by kernel_rfl) fun base η w vs hM hr => by
    simp only [RepL, Rep] at hr
    obtain ⟨_, _, rfl, ⟨_, rfl, b, hb, rfl⟩, rfl⟩ := hr
    have G := goes_name hM (.box 69 [.loc k off]) #[.pointer (some ⟨b, off, none⟩)] 69 (.inl ⟨_, [.pointer (some ⟨b, off, none⟩)], rfl, rfl, by simp only [RepL, Rep]; exact ⟨_, _, rfl, ⟨b, hb, rfl⟩, rfl⟩, fun x hx => by rw [List.mem_singleton] at hx; subst hx; rfl⟩)
    refine ⟨_, _, _, _, _, unpackPEr _ w, h, ?_, G⟩
    simp only [Rep, RepL]
    exact ⟨[_, _, _], rfl, ⟨_, _, rfl, rfl, _, _, rfl, ⟨w.heap.size, by simp only [Names.add, ↓reduceIte], rfl⟩, _, _, rfl, rfl, rfl⟩, fun x hx => by simp only [List.mem_cons, List.not_mem_nil, or_false] at hx; rcases hx with rfl | rfl | rfl <;> rfl⟩
theorem typePEr (a : Addr) (w : World) : (ReflectliteValue.methodAny (ReflectliteValue.valueError "reflectlite.Value.Type" 0) (fun t _ _ _ => ReflectliteType.toType t) #[.agg #[tyV 69, .pointer (some a), .int .u64 150]]).run Tryz.prog w = .ok (.iface 152 (.agg #[tyV 69])) w := by kernel_rfl
theorem rlTypePEr {k off : Nat} (h : K (rtD 69) S) : DCalls Tryz.prog 70 [.agg [.v (tyV 69), .loc k off, .v (.int .u64 150)]] S K :=
  dext (e := ReflectliteValue.methodAny (ReflectliteValue.valueError "reflectlite.Value.Type" 0) (fun t _ _ _ => ReflectliteType.toType t)) Tryz.func70 (by kernel_rfl) (by kernel_rfl) (by kernel_rfl) (by kernel_rfl) fun base η w vs hM hr => by
    simp only [RepL, Rep] at hr
    obtain ⟨_, _, rfl, ⟨_, rfl, ⟨_, _, rfl, rfl, _, _, rfl, ⟨b, hb, rfl⟩, _, _, rfl, rfl, rfl⟩, _⟩, rfl⟩ := hr
    exact ⟨_, S, η, _, w, typePEr _ w, h, (rep_val_iff (d := rtD 69) rfl).2 rfl, Goes.refl hM⟩
theorem partsPEr (a : Addr) (w : World) : (ReflectliteValue.parts (.agg #[tyV 69, .pointer (some a), .int .u64 150])).run Tryz.prog w = .ok (some (69, a, 150)) w := by kernel_rfl
theorem rlIsNilPEr {b k off : Nat} (hb : S.ob b = some (.box 69 [.loc k off])) (h : K (.v (.bool false)) S) : DCalls Tryz.prog 71 [.agg [.v (tyV 69), .loc b 0, .v (.int .u64 150)]] S K :=
  dext (e := ReflectliteValue.method (ReflectliteValue.valueError "reflectlite.Value.IsNil" 0) ReflectliteValue.isNil) Tryz.func71 (by kernel_rfl) (by kernel_rfl) (by kernel_rfl) (by kernel_rfl) fun base η w vs hM hr => by
    simp only [RepL, Rep] at hr
    obtain ⟨_, _, rfl, ⟨_, rfl, ⟨_, _, rfl, rfl, _, _, rfl, ⟨q, hq, rfl⟩, _, _, rfl, rfl, rfl⟩, _⟩, rfl⟩ := hr
    obtain ⟨us, g1, g2, g3⟩ := hM.box b _ _ q hb hq
    simp only [RepL, Rep] at g2
    obtain ⟨_, _, rfl, ⟨p, hp, rfl⟩, rfl⟩ := g2
    have ha : w.cell? ⟨q, 0, none⟩ = some (.pointer (some ⟨p, off, none⟩)) := by simp [World.cell?, g1]
    refine ⟨_, S, η, .bool false, w, ?_, h, by simp only [Rep], Goes.refl hM⟩
    rw [rlm]
    simp only [Sem.run_bind, partsPEr, Result.andThen]
    simp [ReflectliteValue.isNil, loadVar, isAgg, underlying, Tryz.underlying69, ha, Result.andThen]
theorem elemOfPEr (w : World) : (Rtype.elem? 69).run Tryz.prog w = .ok (some 62) w := by kernel_rfl
theorem mkPEr (p : Addr) (w : World) : (ReflectliteValue.mk 62 p ReflectliteValue.flagAddr).run Tryz.prog w = .ok (.agg #[tyV 62, .pointer (some p), .int .u64 386]) w := by kernel_rfl
theorem rlElemPEr {b k off : Nat} (hb : S.ob b = some (.box 69 [.loc k off])) (h : K (.agg [.v (tyV 62), .loc k off, .v (.int .u64 386)]) S) : DCalls Tryz.prog 114 [.agg [.v (tyV 69), .loc b 0, .v (.int .u64 150)]] S K :=
  dext (e := ReflectliteValue.method (ReflectliteValue.valueError "reflectlite.Value.Elem" 0) ReflectliteValue.elem) Tryz.func114 (by kernel_rfl) (by kernel_rfl) (by kernel_rfl) (by kernel_rfl) fun base η w vs hM hr => by
    simp only [RepL, Rep] at hr
    obtain ⟨_, _, rfl, ⟨_, rfl, ⟨_, _, rfl, rfl, _, _, rfl, ⟨q, hq, rfl⟩, _, _, rfl, rfl, rfl⟩, _⟩, rfl⟩ := hr
    obtain ⟨us, g1, g2, g3⟩ := hM.box b _ _ q hb hq
    simp only [RepL, Rep] at g2
    obtain ⟨_, _, rfl, ⟨p, hp, rfl⟩, rfl⟩ := g2
    have ha : w.cell? ⟨q, 0, none⟩ = some (.pointer (some ⟨p, off, none⟩)) := by simp [World.cell?, g1]
    refine ⟨_, S, η, .agg #[tyV 62, .pointer (some ⟨p, off, none⟩), .int .u64 386], w, ?_, h, ?_, Goes.refl hM⟩
    · rw [rlm]
      simp only [Sem.run_bind, partsPEr, Result.andThen]
      simp [ReflectliteValue.elem, loadVar, isAgg, underlying, Tryz.underlying69, ha, Result.andThen, elemOfPEr, mkPEr]
    · simp only [Rep, RepL]
      exact ⟨[_, _, _], rfl, ⟨_, _, rfl, rfl, _, _, rfl, ⟨p, hp, rfl⟩, _, _, rfl, rfl, rfl⟩, fun x hx => by simp only [List.mem_cons, List.not_mem_nil, or_false] at hx; rcases hx with rfl | rfl | rfl <;> rfl⟩
theorem methKindPEr : DMeth Tryz.prog 152 (tyD 69) "Kind" 197 (.v (tyV 69)) := dmeth_pure rfl rfl fun w => by kernel_rfl
theorem methKindEr : DMeth Tryz.prog 152 (tyD 62) "Kind" 197 (.v (tyV 62)) := dmeth_pure rfl rfl fun w => by kernel_rfl
theorem rlKindPEr (h : K (.v (.int .u8 22)) S) : DCalls Tryz.prog 197 [.v (tyV 69)] S K :=
  dext_pure (e := ReflectliteType.abiMethod fun t => do pure (.int .u8 (← Rtype.kind t))) Tryz.func197 (by kernel_rfl) (by kernel_rfl) (by kernel_rfl) (by kernel_rfl) (r := .int .u8 22) rfl (fun w => by kernel_rfl) rfl h
theorem rlKindEr (h : K (.v (.int .u8 2)) S) : DCalls Tryz.prog 197 [.v (tyV 62)] S K :=
  dext_pure (e := ReflectliteType.abiMethod fun t => do pure (.int .u8 (← Rtype.kind t))) Tryz.func197 (by kernel_rfl) (by kernel_rfl) (by kernel_rfl) (by kernel_rfl) (r := .int .u8 2) rfl (fun w => by kernel_rfl) rfl h
theorem methElemPEr : DMeth Tryz.prog 152 (tyD 69) "Elem" 208 (tyD 69) := dmeth_pure rfl rfl fun w => by kernel_rfl
theorem rlTElemPEr (h : K (rtD 62) S) : DCalls Tryz.prog 208 [tyD 69] S K :=
  dext_pure (e := ReflectliteType.method ReflectliteType.elem) Tryz.func208 (by kernel_rfl) (by kernel_rfl) (by kernel_rfl) (by kernel_rfl) (r := .iface 152 (.agg #[tyV 62])) rfl (fun w => by kernel_rfl) rfl h
theorem methImplEr : DMeth Tryz.prog 152 (tyD 62) "Implements" 209 (tyD 62) := dmeth_pure rfl rfl fun w => by kernel_rfl
theorem rlImplEr (h : K (.v (.bool true)) S) : DCalls Tryz.prog 209 [tyD 62, rtD 35] S K :=
  dext_pure (e := ReflectliteType.relation "Implements" ReflectliteType.implements_) Tryz.func209 (by kernel_rfl) (by kernel_rfl) (by kernel_rfl) (by kernel_rfl) (r := .bool true) rfl (fun w => by kernel_rfl) rfl h
theorem methAsgEr : DMeth Tryz.prog 152 (tyD 62) "AssignableTo" 206 (tyD 62) := dmeth_pure rfl rfl fun w => by kernel_rfl
theorem rlAsgEr (h : K (.v (.bool true)) S) : DCalls Tryz.prog 206 [tyD 62, rtD 62] S K :=
  dext_pure (e := ReflectliteType.relation "AssignableTo" ReflectliteType.assignableTo) Tryz.func206 (by kernel_rfl) (by kernel_rfl) (by kernel_rfl) (by kernel_rfl) (r := .bool true) rfl (fun w => by kernel_rfl) rfl h
theorem typeOfEr (x : Value) (w : World) : (ReflectliteType.typeOf #[.iface 62 x]).run Tryz.prog w = .ok (.iface 152 (.agg #[tyV 62])) w := by kernel_rfl
theorem rlTypeOfEr {d : D} (h : K (rtD 62) S) : DCalls Tryz.prog 113 [.ifc 62 d] S K :=
  dext (e := ReflectliteType.typeOf) Tryz.func113 (by kernel_rfl) (by kernel_rfl) (by kernel_rfl) (by kernel_rfl) fun base η w vs hM hr => by
    simp only [RepL, Rep] at hr
    obtain ⟨_, _, rfl, ⟨x, rfl, _⟩, rfl⟩ := hr
    exact ⟨_, S, η, _, w, typeOfEr x w, h, (rep_val_iff (d := rtD 62) rfl).2 rfl, Goes.refl hM⟩
end

end Go.Proofs.YtjjhjhjphhpeiaaGreatDoor

namespace Go.Proofs.YtjjhjhjphhpeiaaGreatDoor
open Go.RowKit Go.Extern.Stop Go.Stop Go.Extern
abbrev erD (n : Int) : D := .ifc 62 (.v (.int .i64 n))
section
variable {P : Program} {S : St} {K : D → St → Prop}
end
section
variable {S : St} {K : D → St → Prop} {u : D}
end
theorem unpackEr (n : Int) (w : World) : (ReflectliteValue.unpack (.iface 62 (.int .i64 n))).run Tryz.prog w = .ok (.agg #[tyV 62, .pointer (some ⟨w.heap.size, 0, none⟩), .int .u64 130]) (w.alloc (.cells #[.int .i64 n] 62)) := by kernel_rfl
section
variable {S : St} {K : D → St → Prop}
theorem rlValueOfEr {n : Int} (h : K (.agg [.v (tyV 62), .loc S.next 0, .v (.int .u64 130)]) (S.add (.box 62 [.v (.int .i64 n)]))) : DCalls Tryz.prog 69 [erD n] S K :=
  dext (e := fun args => ReflectliteValue.unpack (args.getD 0 (.tuple #[]))) Tryz.func69 (by kernel_rfl) (by kernel_rfl) (by kernel_rfl) (by kernel_rfl) fun base η w vs hM hr => by
    simp only [RepL, Rep] at hr
    obtain ⟨_, _, rfl, ⟨_, rfl, rfl⟩, rfl⟩ := hr
    have G := goes_name hM (.box 62 [.v (.int .i64 n)]) #[.int .i64 n] 62 (.inl ⟨_, [.int .i64 n], rfl, rfl, by simp only [RepL, Rep]; exact ⟨_, _, rfl, rfl, rfl⟩, fun x hx => by rw [List.mem_singleton] at hx; subst hx; rfl⟩)
    refine ⟨_, _, _, _, _, unpackEr _ w, h, ?_, G⟩
    simp only [Rep, RepL]
    exact ⟨[_, _, _], rfl, ⟨_, _, rfl, rfl, _, _, rfl, ⟨w.heap.size, by simp only [Names.add, ↓reduceIte], rfl⟩, _, _, rfl, rfl, rfl⟩, fun x hx => by simp only [List.mem_cons, List.not_mem_nil, or_false] at hx; rcases hx with rfl | rfl | rfl <;> rfl⟩
end

theorem partsEra (a : Addr) (w : World) : (ReflectliteValue.parts (.agg #[tyV 62, .pointer (some a), .int .u64 386])).run Tryz.prog w = .ok (some (62, a, 386)) w := by kernel_rfl
theorem partsEr (a : Addr) (w : World) : (ReflectliteValue.parts (.agg #[tyV 62, .pointer (some a), .int .u64 130])).run Tryz.prog w = .ok (some (62, a, 130)) w := by kernel_rfl
theorem directEr (w : World) : (Rtype.directlyAssignable 62 62).run Tryz.prog w = .ok true w := by kernel_rfl
theorem sizeEr (w : World) : (sizeOf 62).run Tryz.prog w = .ok 1 w := by kernel_rfl
theorem setEr {b a : Nat} {x : Value} {n : Int} {W : World} (hb : W.heap[b]? = some (.cells [x].toArray 62 (0, 0))) (ha : W.cell? ⟨a, 0, none⟩ = some (.int .i64 n)) :
    (ReflectliteValue.set #[.agg #[tyV 62, .pointer (some ⟨b, 0, none⟩), .int .u64 386], .agg #[tyV 62, .pointer (some ⟨a, 0, none⟩), .int .u64 130]]).run Tryz.prog W = .ok (.tuple #[]) (W.setRow b [.int .i64 n].toArray) := by
  have q := run_storeCells_at Tryz.prog b 0 62 [.int .i64 n] 0 [x].toArray W hb (by simp) (by simp [Value.oneCell'])
  rw [rls]
  simp only [Sem.run_bind, partsEra, partsEr, Result.andThen]
  simp [ReflectliteValue.flagAddr, loadVar, isAgg, underlying, Tryz.underlying62, ha, Result.andThen, directEr, storeVar, sizeEr, Value.cells] at q ⊢
  simp [q]
theorem rlSetEr {S : St} {K : D → St → Prop} {a b : Nat} {d0 : D} {n : Int} (hb : S.ob b = some (.box 62 [d0])) (ha : S.ob a = some (.box 62 [.v (.int .i64 n)])) (h : K (.tup []) (S.set b (.box 62 [.v (.int .i64 n)]))) :
    DCalls Tryz.prog 115 [.agg [.v (tyV 62), .loc b 0, .v (.int .u64 386)], .agg [.v (tyV 62), .loc a 0, .v (.int .u64 130)]] S K :=
  dext (e := ReflectliteValue.set) Tryz.func115 (by kernel_rfl) (by kernel_rfl) (by kernel_rfl) (by kernel_rfl) fun base η w vs hM hr => by
    simp only [RepL, Rep] at hr
    obtain ⟨_, _, rfl, ⟨_, rfl, ⟨_, _, rfl, rfl, _, _, rfl, ⟨q, hq, rfl⟩, _, _, rfl, rfl, rfl⟩, _⟩, _, _, rfl, ⟨_, rfl, ⟨_, _, rfl, rfl, _, _, rfl, ⟨p, hp, rfl⟩, _, _, rfl, rfl, rfl⟩, _⟩, rfl⟩ := hr
    obtain ⟨us, g1, g2, g3⟩ := hM.box b _ _ q hb hq
    obtain ⟨us', k1, k2, k3⟩ := hM.box a _ _ p ha hp
    simp only [RepL] at g2
    obtain ⟨x, _, rfl, hx, rfl⟩ := g2
    simp only [RepL] at k2
    obtain ⟨y, _, rfl, hy, rfl⟩ := k2
    have hy0 := hy
    simp only [Rep] at hy
    subst hy
    have hc : w.cell? ⟨p, 0, none⟩ = some (.int .i64 n) := by simp [World.cell?, k1]
    have G := goes_set hM (cs' := [.v (.int .i64 n)]) (vs' := [_]) hb hq rfl (by simp only [RepL]; exact ⟨_, _, rfl, hy0, rfl⟩) k3
    exact ⟨_, _, _, _, _, setEr g1 hc, h, by simp only [Rep, RepL]; exact ⟨[], rfl, rfl⟩, G⟩

end Go.Proofs.YtjjhjhjphhpeiaaGreatDoor

namespace Go.Proofs.YtjjhjhjphhpeiaaGreatDoor
open Go.RowKit
theorem bnil_eq0 (k : Nat) : dbin Tryz.prog .eql 35 (.tmp k) (.const .nilIface) (.v .nilIface) (.v .nilIface) = some (True, .v (.bool true)) := by kernel_rfl
set_option maxRecDepth 200000 in
set_option maxHeartbeats 4000000 in
theorem as0Walk {S : St} {n : Int} {x0 : D} {kb kc : Nat} {K : D → St → Prop} (hk : S.ob kc = some (.box 62 [x0])) (hb : S.ob kb = some (.box 69 [.loc kc 0]))
    (h : ∀ T, S.next ≤ T.next → T.WF → (∀ j o, j ≠ kc → S.ob j = some o → T.ob j = some o) → T.ob kc = some (.box 62 [.v (.int .i64 n)]) → K (.v (.bool true)) T) :
    DCalls Tryz.prog 72 [erD n, .ifc 69 (.loc kc 0), .agg [.v (tyV 69), .loc kb 0, .v (.int .u64 150)], rtD 62] S K := by
  refine dcalls_inline mixed Tryz.func72 rfl (fun _ _ => by kernel_rfl) (rs := [.tmp 8]) rfl (by kernel_rfl) (fun hS => ?_)
  (simp (disch := first | decide | omega | (simp only [nx]; first | done | omega)) only [go_sem]; (repeat with_reducible refine aI ?_))
  (refine dloop_st (fun t => List.contains [0, 8, 9, 10, 11, 12, 14, 15, 16, 17, 18, 19, 20, 21, 22, 23, 24, 25, 26, 27, 28, 29, 30, 31, 32, 33, 34, 35, 36, 37, 38, 39, 40, 41, 42, 43, 44, 45, 46, 47, 48, 49, 50, 51, 52, 53, 54, 55, 56, 57, 58, 59, 60, 61] t) (by kernel_rfl) ?_ (0) (fun i f => i ≤ 0 ∧ f 0 = erD n ∧ f 8 = .v (.bool false)) ?_ ?_; (exact (by (repeat' first | assumption | refine St.WF.leave ?_ _ | refine St.WF.add ?_ _ | refine St.WF.set ?_ ?_ _ | refine St.WF.grow ?_ _ _ _ | refine St.WF.keep ?_ ?_ | (first | omega | (simp only [RowOk.lo, nx]; first | done | omega))))); (exact ⟨(by omega), (by (first | (simp (disch := first | decide | omega | (simp only [nx]; first | done | omega)) only [go_sem]; first | done | rfl) | rfl)), (by (first | (simp (disch := first | decide | omega | (simp only [nx]; first | done | omega)) only [go_sem]; first | done | rfl) | rfl))⟩); intro i g tn hn hT hg hI; obtain ⟨le, q0, q8⟩ := hI; have q1 := hg 1 rfl; have q3 := hg 3 rfl; have q6 := hg 6 rfl; simp (disch := first | decide | omega | (simp only [nx]; first | done | omega)) only [go_sem] at q1 q3 q6; clear hg; have hn' := hn; try simp only [add_next, set_next, grow_next, leave_next, drop_next] at hn')
  have hB : ∀ j o, S.ob j = some o → (St.mk tn (S.add (.box 105 [.v (tyV 69), .loc kb 0, .v (.int .u64 150)])).ob).ob j = some o := fun j o ho => by
    have hkl := hS.lt ho
    show (if j = S.next then _ else S.ob j) = _
    rw [if_neg (by omega), ho]
  (simp (disch := first | decide | omega | (simp only [nx]; first | done | omega)) only [go_sem, q0, q1, q3, q6]; (repeat with_reducible refine aI ?_))
  refine rlTypeOfEr ?_
  (simp (disch := first | decide | omega | (simp only [nx]; first | done | omega)) only [go_sem, q0, q1, q3, q6]; (repeat with_reducible refine aI ?_))
  refine dinvoke_mk methAsgEr (rlAsgEr ?_)
  (simp (disch := first | decide | omega | (simp only [nx]; first | done | omega)) only [go_sem, q0, q1, q3, q6]; (repeat with_reducible refine aI ?_))
  refine rlElemPEr (hB _ _ hb) ?_
  (simp (disch := first | decide | omega | (simp only [nx]; first | done | omega)) only [go_sem, q0, q1, q3, q6]; (repeat with_reducible refine aI ?_))
  refine rlValueOfEr ?_
  (simp (disch := first | decide | omega | (simp only [nx]; first | done | omega)) only [go_sem, q0, q1, q3, q6]; (repeat with_reducible refine aI ?_))
  have hkc := hS.lt hk
  have hkn : kc ≠ tn := by omega
  refine rlSetEr (d0 := x0) (n := n) ?_ ?_ ?_
  · show (if kc = tn then _ else _) = _
    rw [if_neg hkn]; exact hB _ _ hk
  · show (if tn = tn then _ else _) = _
    rw [if_pos rfl]
  (simp (disch := first | decide | omega | (simp only [nx]; first | done | omega)) only [go_sem, q0, q1, q3, q6]; (repeat with_reducible refine aI ?_))
  refine h _ ?_ ?_ (fun j o hj ho => ?_) ?_
  · show S.next ≤ tn + 1
    omega
  · exact (by (repeat' first | assumption | refine St.WF.leave ?_ _ | refine St.WF.add ?_ _ | refine St.WF.set ?_ ?_ _ | refine St.WF.grow ?_ _ _ _ | refine St.WF.keep ?_ ?_ | (first | omega | (simp only [RowOk.lo, nx]; first | done | omega))))
  · show (if j = kc then _ else if j = tn then _ else _) = _
    have := hS.lt ho
    rw [if_neg hj, if_neg (by omega)]; exact hB _ _ ho
  · show (if kc = kc then _ else _) = _
    rw [if_pos rfl]
set_option maxRecDepth 200000 in
set_option maxHeartbeats 4000000 in
theorem as0 {S : St} {n : Int} {x0 : D} {kc : Nat} {K : D → St → Prop} (hk : S.ob kc = some (.box 62 [x0]))
    (h : ∀ T, S.next ≤ T.next → T.WF → (∀ j o, j ≠ kc → S.ob j = some o → T.ob j = some o) → T.ob kc = some (.box 62 [.v (.int .i64 n)]) → K (.v (.bool true)) T) :
    DCalls Tryz.prog 35 [erD n, .ifc 69 (.loc kc 0)] S K := by
  refine dcalls_inline mixed Tryz.func35 rfl (fun _ _ => by kernel_rfl) (rs := [.tmp 4]) rfl (by kernel_rfl) (fun hS => ?_)
  unfold erD
  (simp (disch := first | decide | omega | (simp only [nx]; first | done | omega)) only [go_sem]; (repeat with_reducible refine aI ?_))
  refine rlValueOfPEr ?_
  (simp (disch := first | decide | omega | (simp only [nx]; first | done | omega)) only [go_sem]; (repeat with_reducible refine aI ?_))
  refine rlTypePEr ?_
  (simp (disch := first | decide | omega | (simp only [nx]; first | done | omega)) only [go_sem]; (repeat with_reducible refine aI ?_))
  have k22 : ((22 : Int) != 22) = false := by decide
  have k20 : ((2 : Int) != 20) = true := by decide
  refine dinvoke_mk methKindPEr (rlKindPEr ?_)
  (simp (disch := first | decide | omega | (simp only [nx]; first | done | omega)) only [go_sem, k22]; (repeat with_reducible refine aI ?_))
  refine rlIsNilPEr (k := kc) (off := 0) ?_ ?_
  · (first | (simp (disch := first | decide | omega | (simp only [nx]; first | done | omega)) only [go_sem]; first | done | rfl) | rfl)
  (simp (disch := first | decide | omega | (simp only [nx]; first | done | omega)) only [go_sem, k22]; (repeat with_reducible refine aI ?_))
  refine dinvoke_mk methElemPEr (rlTElemPEr ?_)
  (simp (disch := first | decide | omega | (simp only [nx]; first | done | omega)) only [go_sem]; (repeat with_reducible refine aI ?_))
  refine dinvoke_mk methKindEr (rlKindEr ?_)
  (simp (disch := first | decide | omega | (simp only [nx]; first | done | omega)) only [go_sem, k20]; (repeat with_reducible refine aI ?_))
  refine dinvoke_mk methImplEr (rlImplEr ?_)
  (simp (disch := first | decide | omega | (simp only [nx]; first | done | omega)) only [go_sem]; (repeat with_reducible refine aI ?_))
  have hkc := hS.lt hk
  have hB : ∀ j o, S.ob j = some o → (((S.add (.box 69 [.loc kc 0])).add (.box 105 [.v (.pointer none), .v (.pointer none), .v (.int .u64 0)])).set (S.next + 1) (.box 105 [.v (tyV 69), .loc S.next 0, .v (.int .u64 150)])).ob j = some o := fun j o ho => by
    have hkl := hS.lt ho
    show (if j = S.next + 1 then _ else if j = S.next + 1 then _ else if j = S.next then _ else S.ob j) = _
    rw [if_neg (by omega), if_neg (by omega), if_neg (by omega), ho]
  refine as0Walk (hB _ _ hk) (kb := S.next) ?_ fun T t1 t2 t3 t4 => ?_
  · (first | (simp (disch := first | decide | omega | (simp only [nx]; first | done | omega)) only [go_sem]; first | done | rfl) | rfl)
  (simp (disch := first | decide | omega | (simp only [nx]; first | done | omega)) only [go_sem]; (repeat with_reducible refine aI ?_))
  exact h T (by have : S.next + 1 + 1 ≤ T.next := t1; omega) t2 (fun j o hj ho => t3 j o hj (hB _ _ ho)) t4
theorem code0_nil : DPure Tryz.prog 11 [.v .nilIface] (.v (.int .i64 0)) := by
  refine dpure_of_dwp mixed Tryz.func11 rfl (fun _ _ => by kernel_rfl) (rs := [.tmp 2]) rfl (by kernel_rfl) trivial (fun S hS => ?_)
  (simp (disch := first | decide | omega | (simp only [nx]; first | done | omega)) only [go_sem, bnil_eq0]; (repeat with_reducible refine aI ?_))
  refine ⟨?_, (by (repeat' first | assumption | exact St.Sub.refl _ | exact RowOk.sub (by assumption) (by assumption) | refine St.Sub.trans ?_ (RowOk.sub (by assumption) (by assumption)) | refine St.Sub.add ?_ ?_ _ | refine St.Sub.set ?_ ?_ ?_ _ | refine St.Sub.keep ?_ ?_ | refine St.WF.leave ?_ _ | refine St.WF.add ?_ _ | refine St.WF.set ?_ ?_ _ | refine St.WF.grow ?_ _ _ _ | refine St.WF.keep ?_ ?_ | (first | omega | (simp only [RowOk.lo, nx]; first | done | omega))))⟩
  rfl
theorem code0_er (n : Int) : DPure Tryz.prog 11 [erD n] (.v (.int .i64 n)) := by
  refine dpure_of_dwp mixed Tryz.func11 rfl (fun _ _ => by kernel_rfl) (rs := [.tmp 2]) rfl (by kernel_rfl) trivial (fun S hS => ?_)
  unfold erD
  (simp (disch := first | decide | omega | (simp only [nx]; first | done | omega)) only [go_sem]; (repeat with_reducible refine aI ?_))
  refine as0 (x0 := .v (.int .i64 0)) ?_ fun T t1 t2 t3 t4 => ?_
  · show (if S.next = S.next then _ else _) = _
    rw [if_pos rfl]
  (simp (disch := first | decide | omega | (simp only [nx]; first | done | omega)) only [go_sem, t4]; (repeat with_reducible refine aI ?_))
  have hsub : S.Sub T := ⟨by have : S.next + 1 ≤ T.next := t1; omega, fun j o ho => t3 j o (by have := hS.lt ho; omega) (by have := hS.lt ho; show (if j = S.next then _ else _) = _; rw [if_neg (by omega), ho])⟩
  refine ⟨?_, (by (repeat' first | assumption | exact St.Sub.refl _ | exact RowOk.sub (by assumption) (by assumption) | refine St.Sub.trans ?_ (RowOk.sub (by assumption) (by assumption)) | refine St.Sub.add ?_ ?_ _ | refine St.Sub.set ?_ ?_ ?_ _ | refine St.Sub.keep ?_ ?_ | refine St.WF.leave ?_ _ | refine St.WF.add ?_ _ | refine St.WF.set ?_ ?_ _ | refine St.WF.grow ?_ _ _ _ | refine St.WF.keep ?_ ?_ | (first | omega | (simp only [RowOk.lo, nx]; first | done | omega))))⟩
  rfl
end Go.Proofs.YtjjhjhjphhpeiaaGreatDoor

namespace Go.Proofs.YtjjhjhjphhpeiaaGreatDoor
open Go.RowKit
set_option maxRecDepth 200000 in
set_option maxHeartbeats 8000000 in
theorem stepsEqual_d (own own2 : Own) (p q : List DStp) (hp : p.length ≤ 1000000) (hq : q.length ≤ 1000000) : DPure Tryz.prog 52 [.sl own (p.map encP), .sl own2 (q.map encP)] (.v (.bool (decide (p = q)))) := by
  refine dpure_of_dwp mixed Tryz.func52 rfl (fun _ _ => by kernel_rfl) (rs := [.tmp 4]) rfl (by kernel_rfl) trivial (fun S hS => ?_)
  by_cases hl : p.length = q.length
  · have b0 : ((p.length : Int) != (q.length : Int)) = false := by simp [hl]
    (simp (disch := first | decide | omega | (simp only [nx]; first | done | omega)) only [go_sem, b0]; (repeat with_reducible refine aI ?_))
    (refine dloop_st (fun t => List.contains [4, 5, 13, 14, 15, 16, 17, 18, 19, 20, 21, 22, 23, 24, 25] t) (by kernel_rfl) ?_ (p.length) (fun i f => i ≤ p.length ∧ f 13 = .v (.int .i64 (i : Nat)) ∧ (∀ j, j < i → p[j]? = q[j]?)) ?_ ?_; (exact (by (repeat' first | assumption | refine St.WF.leave ?_ _ | refine St.WF.add ?_ _ | refine St.WF.set ?_ ?_ _ | refine St.WF.grow ?_ _ _ _ | refine St.WF.keep ?_ ?_ | (first | omega | (simp only [RowOk.lo, nx]; first | done | omega))))); (exact ⟨(by omega), (by (first | (simp (disch := first | decide | omega | (simp only [nx]; first | done | omega)) only [go_sem]; first | done | rfl) | rfl)), (fun j hj => by omega)⟩); intro i g tn hn hT hg hI; obtain ⟨le, q13, hsame⟩ := hI; have q0 := hg 0 rfl; have q1 := hg 1 rfl; have q12 := hg 12 rfl; simp (disch := first | decide | omega | (simp only [nx]; first | done | omega)) only [go_sem] at q0 q1 q12; clear hg; have hn' := hn; try simp only [add_next, set_next, grow_next, leave_next, drop_next] at hn')
    by_cases hlt : i < p.length
    · have b1 : decide ((i : Int) < (p.length : Int)) = true := by simp; omega
      have w1 : IntKind.i64.wrap ((i : Int) + 1) = ((i + 1 : Nat) : Int) := IntWalk.i64_in _ ⟨by omega, by omega⟩
      have hlt2 : i < q.length := by omega
      (simp (disch := first | decide | omega | (simp only [nx]; first | done | omega)) only [go_sem, q0, q1, q12, q13, b1]; (repeat with_reducible refine aI ?_))
      refine ddraw_mk 9 (by kernel_rfl) ?_
      by_cases hx : p[i] = q[i]
      · have b2 : (!decide (p[i] = q[i])) = false := by simp [hx]
        (simp (disch := first | decide | omega | (simp only [nx]; first | done | omega)) only [go_sem, q0, q1, q12, q13, b1, b2, w1]; (repeat with_reducible refine aI ?_))
        (refine ⟨by omega, (by (repeat' first | assumption | exact St.Sub.refl _ | exact RowOk.sub (by assumption) (by assumption) | refine St.Sub.trans ?_ (RowOk.sub (by assumption) (by assumption)) | refine St.Sub.add ?_ ?_ _ | refine St.Sub.set ?_ ?_ ?_ _ | refine St.Sub.keep ?_ ?_ | refine St.WF.leave ?_ _ | refine St.WF.add ?_ _ | refine St.WF.set ?_ ?_ _ | refine St.WF.grow ?_ _ _ _ | refine St.WF.keep ?_ ?_ | (first | omega | (simp only [RowOk.lo, nx]; first | done | omega)))), ?_⟩; refine ⟨by omega, ?_, ?_⟩; all_goals (try (first | (simp (disch := first | decide | omega | (simp only [nx]; first | done | omega)) only [go_sem, w1]; first | done | rfl) | rfl)))
        intro j hj
        by_cases e : j = i
        · subst e; rw [List.getElem?_eq_getElem hlt, List.getElem?_eq_getElem hlt2, hx]
        · exact hsame j (by omega)
      · have b2 : (!decide (p[i] = q[i])) = true := by simp [hx]
        (simp (disch := first | decide | omega | (simp only [nx]; first | done | omega)) only [go_sem, q0, q1, q12, q13, b1, b2]; (repeat with_reducible refine aI ?_))
        refine ⟨?_, (by (repeat' first | assumption | exact St.Sub.refl _ | exact RowOk.sub (by assumption) (by assumption) | refine St.Sub.trans ?_ (RowOk.sub (by assumption) (by assumption)) | refine St.Sub.add ?_ ?_ _ | refine St.Sub.set ?_ ?_ ?_ _ | refine St.Sub.keep ?_ ?_ | refine St.WF.leave ?_ _ | refine St.WF.add ?_ _ | refine St.WF.set ?_ ?_ _ | refine St.WF.grow ?_ _ _ _ | refine St.WF.keep ?_ ?_ | (first | omega | (simp only [RowOk.lo, nx]; first | done | omega))))⟩
        rw [decide_eq_false]
        · rfl
        · intro e; subst e; exact hx rfl
    · have b1 : decide ((i : Int) < (p.length : Int)) = false := by simp; omega
      (simp (disch := first | decide | omega | (simp only [nx]; first | done | omega)) only [go_sem, q0, q1, q12, q13, b1]; (repeat with_reducible refine aI ?_))
      refine ⟨?_, (by (repeat' first | assumption | exact St.Sub.refl _ | exact RowOk.sub (by assumption) (by assumption) | refine St.Sub.trans ?_ (RowOk.sub (by assumption) (by assumption)) | refine St.Sub.add ?_ ?_ _ | refine St.Sub.set ?_ ?_ ?_ _ | refine St.Sub.keep ?_ ?_ | refine St.WF.leave ?_ _ | refine St.WF.add ?_ _ | refine St.WF.set ?_ ?_ _ | refine St.WF.grow ?_ _ _ _ | refine St.WF.keep ?_ ?_ | (first | omega | (simp only [RowOk.lo, nx]; first | done | omega))))⟩
      rw [decide_eq_true]
      · rfl
      · refine List.ext_getElem? fun j => ?_
        by_cases hj : j < i
        · exact hsame j hj
        · rw [List.getElem?_eq_none (by omega), List.getElem?_eq_none (by omega)]
  · have b0 : ((p.length : Int) != (q.length : Int)) = true := by simp; omega
    (simp (disch := first | decide | omega | (simp only [nx]; first | done | omega)) only [go_sem, b0]; (repeat with_reducible refine aI ?_))
    refine ⟨?_, (by (repeat' first | assumption | exact St.Sub.refl _ | exact RowOk.sub (by assumption) (by assumption) | refine St.Sub.trans ?_ (RowOk.sub (by assumption) (by assumption)) | refine St.Sub.add ?_ ?_ _ | refine St.Sub.set ?_ ?_ ?_ _ | refine St.Sub.keep ?_ ?_ | refine St.WF.leave ?_ _ | refine St.WF.add ?_ _ | refine St.WF.set ?_ ?_ _ | refine St.WF.grow ?_ _ _ _ | refine St.WF.keep ?_ ?_ | (first | omega | (simp only [RowOk.lo, nx]; first | done | omega))))⟩
    rw [decide_eq_false]
    · rfl
    · intro e; subst e; exact hl rfl
noncomputable def sameO (o p : DOp) : Bool := decide (o.kind = p.kind) && (decide (o.id = p.id) && (decide (o.after = p.after) && (decide (o.path = p.path) && eqB o.val p.val)))
theorem sameO_self (o : DOp) : sameO o o = true := by simp [sameO, eqB_true rfl]
theorem int_dec (a b : Int) : (a == b) = decide (a = b) := by rw [Bool.eq_iff_iff]; simp
set_option maxRecDepth 200000 in
set_option maxHeartbeats 8000000 in
theorem same_o (o p : DOp) (h : OkO o) (h' : OkO p) : DPure Tryz.prog 22 [encO o, encO p] (.v (.bool (sameO o p))) := by
  have w1 := h.wt
  have w2 := h'.wt
  have l1 := h.path
  have l2 := h'.path
  refine dpure_of_dwp mixed Tryz.func22 rfl (fun _ _ => by kernel_rfl) (rs := [.tmp 4]) rfl (by kernel_rfl) trivial (fun S hS => ?_)
  cases c1 : decide (o.kind = p.kind) with
  | false =>
    (simp (disch := first | decide | omega | (simp only [nx]; first | done | omega)) only [go_sem, opCs, int_dec, c1]; (repeat with_reducible refine aI ?_))
    refine ⟨?_, (by (repeat' first | assumption | exact St.Sub.refl _ | exact RowOk.sub (by assumption) (by assumption) | refine St.Sub.trans ?_ (RowOk.sub (by assumption) (by assumption)) | refine St.Sub.add ?_ ?_ _ | refine St.Sub.set ?_ ?_ ?_ _ | refine St.Sub.keep ?_ ?_ | refine St.WF.leave ?_ _ | refine St.WF.add ?_ _ | refine St.WF.set ?_ ?_ _ | refine St.WF.grow ?_ _ _ _ | refine St.WF.keep ?_ ?_ | (first | omega | (simp only [RowOk.lo, nx]; first | done | omega))))⟩
    rw [sameO, c1]; rfl
  | true =>
  cases c2 : decide (o.id = p.id) with
  | false =>
    (simp (disch := first | decide | omega | (simp only [nx]; first | done | omega)) only [go_sem, opCs, u64_dec, int_dec o.kind p.kind, c1, c2]; (repeat with_reducible refine aI ?_))
    refine ⟨?_, (by (repeat' first | assumption | exact St.Sub.refl _ | exact RowOk.sub (by assumption) (by assumption) | refine St.Sub.trans ?_ (RowOk.sub (by assumption) (by assumption)) | refine St.Sub.add ?_ ?_ _ | refine St.Sub.set ?_ ?_ ?_ _ | refine St.Sub.keep ?_ ?_ | refine St.WF.leave ?_ _ | refine St.WF.add ?_ _ | refine St.WF.set ?_ ?_ _ | refine St.WF.grow ?_ _ _ _ | refine St.WF.keep ?_ ?_ | (first | omega | (simp only [RowOk.lo, nx]; first | done | omega))))⟩
    rw [sameO, c1, c2]; rfl
  | true =>
  cases c3 : decide (o.after = p.after) with
  | false =>
    (simp (disch := first | decide | omega | (simp only [nx]; first | done | omega)) only [go_sem, opCs, u64_dec, int_dec o.kind p.kind, c1, c2, c3]; (repeat with_reducible refine aI ?_))
    refine ⟨?_, (by (repeat' first | assumption | exact St.Sub.refl _ | exact RowOk.sub (by assumption) (by assumption) | refine St.Sub.trans ?_ (RowOk.sub (by assumption) (by assumption)) | refine St.Sub.add ?_ ?_ _ | refine St.Sub.set ?_ ?_ ?_ _ | refine St.Sub.keep ?_ ?_ | refine St.WF.leave ?_ _ | refine St.WF.add ?_ _ | refine St.WF.set ?_ ?_ _ | refine St.WF.grow ?_ _ _ _ | refine St.WF.keep ?_ ?_ | (first | omega | (simp only [RowOk.lo, nx]; first | done | omega))))⟩
    rw [sameO, c1, c2, c3]; rfl
  | true =>
  (simp (disch := first | decide | omega | (simp only [nx]; first | done | omega)) only [go_sem, opCs, u64_dec, int_dec o.kind p.kind, c1, c2, c3]; (repeat with_reducible refine aI ?_))
  refine DCalls.of_pure (stepsEqual_d .no .no o.path p.path (by omega) (by omega)) ?_
  cases c4 : decide (o.path = p.path) with
  | false =>
    (simp (disch := first | decide | omega | (simp only [nx]; first | done | omega)) only [go_sem]; (repeat with_reducible refine aI ?_))
    refine ⟨?_, (by (repeat' first | assumption | exact St.Sub.refl _ | exact RowOk.sub (by assumption) (by assumption) | refine St.Sub.trans ?_ (RowOk.sub (by assumption) (by assumption)) | refine St.Sub.add ?_ ?_ _ | refine St.Sub.set ?_ ?_ ?_ _ | refine St.Sub.keep ?_ ?_ | refine St.WF.leave ?_ _ | refine St.WF.add ?_ _ | refine St.WF.set ?_ ?_ _ | refine St.WF.grow ?_ _ _ _ | refine St.WF.keep ?_ ?_ | (first | omega | (simp only [RowOk.lo, nx]; first | done | omega))))⟩
    rw [sameO, c1, c2, c3, c4]; rfl
  | true =>
  (simp (disch := first | decide | omega | (simp only [nx]; first | done | omega)) only [go_sem]; (repeat with_reducible refine aI ?_))
  refine DCalls.of_pure (valSame_d o.val.depth o.val p.val (Nat.le_refl _) (by omega) (by omega)) ?_
  (simp (disch := first | decide | omega | (simp only [nx]; first | done | omega)) only [go_sem]; (repeat with_reducible refine aI ?_))
  refine ⟨?_, (by (repeat' first | assumption | exact St.Sub.refl _ | exact RowOk.sub (by assumption) (by assumption) | refine St.Sub.trans ?_ (RowOk.sub (by assumption) (by assumption)) | refine St.Sub.add ?_ ?_ _ | refine St.Sub.set ?_ ?_ ?_ _ | refine St.Sub.keep ?_ ?_ | refine St.WF.leave ?_ _ | refine St.WF.add ?_ _ | refine St.WF.set ?_ ?_ _ | refine St.WF.grow ?_ _ _ _ | refine St.WF.keep ?_ ?_ | (first | omega | (simp only [RowOk.lo, nx]; first | done | omega))))⟩
  rw [sameO, c1, c2, c3, c4]; rfl
set_option maxRecDepth 200000 in
set_option maxHeartbeats 8000000 in
theorem refSame_o (o p : DOp) (h : OkO o) (h' : OkO p) : DPure Tryz.prog 23 [encO o, encO p] (.v (.bool (sameO o p))) := by
  have l1 := h.path
  have l2 := h'.path
  refine dpure_of_dwp mixed Tryz.func23 rfl (fun _ _ => by kernel_rfl) (rs := [.tmp 4]) rfl (by kernel_rfl) trivial (fun S hS => ?_)
  cases c1 : decide (o.kind = p.kind) with
  | false =>
    (simp (disch := first | decide | omega | (simp only [nx]; first | done | omega)) only [go_sem, opCs, int_dec, c1]; (repeat with_reducible refine aI ?_))
    refine ⟨?_, (by (repeat' first | assumption | exact St.Sub.refl _ | exact RowOk.sub (by assumption) (by assumption) | refine St.Sub.trans ?_ (RowOk.sub (by assumption) (by assumption)) | refine St.Sub.add ?_ ?_ _ | refine St.Sub.set ?_ ?_ ?_ _ | refine St.Sub.keep ?_ ?_ | refine St.WF.leave ?_ _ | refine St.WF.add ?_ _ | refine St.WF.set ?_ ?_ _ | refine St.WF.grow ?_ _ _ _ | refine St.WF.keep ?_ ?_ | (first | omega | (simp only [RowOk.lo, nx]; first | done | omega))))⟩
    rw [sameO, c1]; rfl
  | true =>
  cases c2 : decide (o.id = p.id) with
  | false =>
    (simp (disch := first | decide | omega | (simp only [nx]; first | done | omega)) only [go_sem, opCs, u64_dec, int_dec o.kind p.kind, c1, c2]; (repeat with_reducible refine aI ?_))
    refine ⟨?_, (by (repeat' first | assumption | exact St.Sub.refl _ | exact RowOk.sub (by assumption) (by assumption) | refine St.Sub.trans ?_ (RowOk.sub (by assumption) (by assumption)) | refine St.Sub.add ?_ ?_ _ | refine St.Sub.set ?_ ?_ ?_ _ | refine St.Sub.keep ?_ ?_ | refine St.WF.leave ?_ _ | refine St.WF.add ?_ _ | refine St.WF.set ?_ ?_ _ | refine St.WF.grow ?_ _ _ _ | refine St.WF.keep ?_ ?_ | (first | omega | (simp only [RowOk.lo, nx]; first | done | omega))))⟩
    rw [sameO, c1, c2]; rfl
  | true =>
  cases c3 : decide (o.after = p.after) with
  | false =>
    (simp (disch := first | decide | omega | (simp only [nx]; first | done | omega)) only [go_sem, opCs, u64_dec, int_dec o.kind p.kind, c1, c2, c3]; (repeat with_reducible refine aI ?_))
    refine ⟨?_, (by (repeat' first | assumption | exact St.Sub.refl _ | exact RowOk.sub (by assumption) (by assumption) | refine St.Sub.trans ?_ (RowOk.sub (by assumption) (by assumption)) | refine St.Sub.add ?_ ?_ _ | refine St.Sub.set ?_ ?_ ?_ _ | refine St.Sub.keep ?_ ?_ | refine St.WF.leave ?_ _ | refine St.WF.add ?_ _ | refine St.WF.set ?_ ?_ _ | refine St.WF.grow ?_ _ _ _ | refine St.WF.keep ?_ ?_ | (first | omega | (simp only [RowOk.lo, nx]; first | done | omega))))⟩
    rw [sameO, c1, c2, c3]; rfl
  | true =>
  (simp (disch := first | decide | omega | (simp only [nx]; first | done | omega)) only [go_sem, opCs, u64_dec, int_dec o.kind p.kind, c1, c2, c3]; (repeat with_reducible refine aI ?_))
  refine DCalls.of_pure (refSameP_d .no .no o.path p.path (by omega) (by omega)) ?_
  cases c4 : decide (o.path = p.path) with
  | false =>
    (simp (disch := first | decide | omega | (simp only [nx]; first | done | omega)) only [go_sem]; (repeat with_reducible refine aI ?_))
    refine ⟨?_, (by (repeat' first | assumption | exact St.Sub.refl _ | exact RowOk.sub (by assumption) (by assumption) | refine St.Sub.trans ?_ (RowOk.sub (by assumption) (by assumption)) | refine St.Sub.add ?_ ?_ _ | refine St.Sub.set ?_ ?_ ?_ _ | refine St.Sub.keep ?_ ?_ | refine St.WF.leave ?_ _ | refine St.WF.add ?_ _ | refine St.WF.set ?_ ?_ _ | refine St.WF.grow ?_ _ _ _ | refine St.WF.keep ?_ ?_ | (first | omega | (simp only [RowOk.lo, nx]; first | done | omega))))⟩
    rw [sameO, c1, c2, c3, c4]; rfl
  | true =>
  (simp (disch := first | decide | omega | (simp only [nx]; first | done | omega)) only [go_sem]; (repeat with_reducible refine aI ?_))
  refine DCalls.of_pure (refSameV_d o.val p.val h.val h'.val) ?_
  (simp (disch := first | decide | omega | (simp only [nx]; first | done | omega)) only [go_sem]; (repeat with_reducible refine aI ?_))
  refine ⟨?_, (by (repeat' first | assumption | exact St.Sub.refl _ | exact RowOk.sub (by assumption) (by assumption) | refine St.Sub.trans ?_ (RowOk.sub (by assumption) (by assumption)) | refine St.Sub.add ?_ ?_ _ | refine St.Sub.set ?_ ?_ ?_ _ | refine St.Sub.keep ?_ ?_ | refine St.WF.leave ?_ _ | refine St.WF.add ?_ _ | refine St.WF.set ?_ ?_ _ | refine St.WF.grow ?_ _ _ _ | refine St.WF.keep ?_ ?_ | (first | omega | (simp only [RowOk.lo, nx]; first | done | omega))))⟩
  rw [sameO, c1, c2, c3, c4]; rfl
theorem code_errO (c : Nat) : DPure Tryz.prog 11 [errO c] (.v (.int .i64 ((c : Nat) : Int))) := by
  unfold errO
  by_cases h : c = 0
  · subst h; exact code0_nil
  · rw [if_neg h]; exact code0_er _
end Go.Proofs.YtjjhjhjphhpeiaaGreatDoor

namespace Go.Proofs.YtjjhjhjphhpeiaaGreatDoor
open Go.RowKit
theorem rightO_cases {o : DOp} (h : rightO o = true) : rightP o.path = true ∧ ((o.kind = 1 ∧ o.id = 0 ∧ o.after = 0 ∧ rightV 5 o.val = true) ∨ (o.kind = 2 ∧ o.id ≠ 0 ∧ o.id ≠ o.after ∧ rightV 5 o.val = true) ∨ (o.kind = 3 ∧ o.id ≠ 0 ∧ o.after = 0 ∧ o.val = zeroV) ∨ (o.kind = 4 ∧ o.id ≠ 0 ∧ o.id ≠ o.after ∧ o.val = zeroV)) := by
  unfold rightO at h
  rw [Bool.and_eq_true] at h
  obtain ⟨h1, h2⟩ := h
  refine ⟨h1, ?_⟩
  split at h2
  · rename_i e
    simp only [Bool.and_eq_true, decide_eq_true_eq] at h2
    exact .inl ⟨e, h2.1.1, h2.1.2, h2.2⟩
  split at h2
  · rename_i e
    simp only [Bool.and_eq_true, decide_eq_true_eq] at h2
    exact .inr (.inl ⟨e, h2.1.1, h2.1.2, h2.2⟩)
  split at h2
  · rename_i e
    simp only [Bool.and_eq_true, decide_eq_true_eq] at h2
    exact .inr (.inr (.inl ⟨e, h2.1.1, h2.1.2, eqB_iff.1 h2.2⟩))
  split at h2
  · rename_i e
    simp only [Bool.and_eq_true, decide_eq_true_eq] at h2
    exact .inr (.inr (.inr ⟨e, h2.1.1, h2.1.2, eqB_iff.1 h2.2⟩))
  · cases h2
def okindB (o : DOp) : UInt8 := UInt8.ofNat o.kind.toNat
def bytesO (o : DOp) : List UInt8 := [okindB o] ++ pathB o.path ++ (if o.kind = 1 then [] else numB o.id) ++ (if o.kind = 2 ∨ o.kind = 4 then numB o.after else []) ++ (if o.kind = 1 ∨ o.kind = 2 then bytesOfV o.val else [])
def oacc (o : DOp) : Nat → List UInt8
  | 0 => [okindB o] ++ pathB o.path
  | 1 => oacc o 0 ++ numB o.id
  | 2 => oacc o 1 ++ numB o.after
  | _ => []
theorem path_small {o : DOp} (ho : OkO o) (h : rightP o.path = true) : o.path.length ≤ 8 ∧ (∀ p ∈ o.path, p.1.length ≤ 100) ∧ ((∀ p ∈ o.path, IsU64 p.2) → (pathB o.path).length ≤ 5000) := by
  unfold rightP at h
  rw [Bool.and_eq_true, decide_eq_true_eq, List.all_eq_true] at h
  have h12 : ∀ p ∈ o.path, p.1.length ≤ 100 := fun p hp => by have := fineB_len (h.2 p hp); omega
  refine ⟨h.1, h12, fun hu => ?_⟩
  have h1 := flatB_len o.path fun p hp => ⟨h12 p hp, hu p hp⟩
  have h2 := numB_length_le o.path.length (by omega)
  rw [pathB, List.length_append]; omega
theorem okindB_toNat {o : DOp} (h1 : 1 ≤ o.kind) (h4 : o.kind ≤ 4) : ((okindB o).toNat : Int) = o.kind := by
  unfold okindB
  rw [UInt8.toNat_ofNat_of_lt' (by show o.kind.toNat < 256; omega)]; omega
structure RSt (S : St) (k : Nat) (L : List UInt8) (q : Nat) (t : TypeId) (i : Nat) (cs zs : List D) (T : St) : Prop where
  wf : T.WF
  rd : RAt k L i T
  box : T.ob q = some (.box t cs)
  zero : T.ob S.next = some (.box t zs)
  fr : RFr k S T
theorem RSt.put {S T : St} {k q i : Nat} {L : List UInt8} {t : TypeId} {cs zs cs' : List D} (h : RSt S k L q t i cs zs T) (hS : S.WF) (hq : S.next < q) (hkq : k ≠ q) : RSt S k L q t i cs' zs (T.set q (.box t cs')) :=
  ⟨h.wf.set (h.wf.lt h.box) _, h.rd.obk (set_ne hkq) rfl, set_eq, (set_ne (by omega)).trans h.zero, ⟨h.fr.next, fun j o hj e => by have := hS.lt e; exact (set_ne (by omega)).trans (h.fr.ob j o hj e)⟩⟩
theorem RSt.call {S T T' : St} {k q i i' : Nat} {L : List UInt8} {t : TypeId} {cs zs : List D} (h : RSt S k L q t i cs zs T) (hr : RAt k L i' T') (hf : RFr k T T') (hT : T'.WF) (hkq : k ≠ q) (hkz : k < S.next) : RSt S k L q t i' cs zs T' :=
  ⟨hT, hr, hf.box q _ _ (Ne.symm hkq) h.box, hf.box S.next _ _ (by omega) h.zero, h.fr.trans hf⟩
section
set_option maxRecDepth 200000
set_option maxHeartbeats 16000000
theorem owrite_w {S : St} {k : Nat} {bs : List UInt8} (o : DOp) (ho : OkO o) (hr : rightO o = true) (hu : ∀ p ∈ o.path, IsU64 p.2) (hv : o.kind = 1 ∨ o.kind = 2 → (bytesOfV o.val).length ≤ 4096) (hk : k < S.next) (h : WAt k bs S) (hb : bs.length ≤ 100000) :
    DCalls Tryz.prog 54 [.loc k 0, encO o] S fun d T => d = undefD ∧ WAt k (bs ++ bytesO o) T ∧ WFr k S T := by
  obtain ⟨hrp, hcs⟩ := rightO_cases hr
  obtain ⟨p1, p2, p3⟩ := path_small ho hrp
  have hpB := p3 hu
  have hk14 : 1 ≤ o.kind ∧ o.kind ≤ 4 := by omega
  have hid : IsU64 o.id := isU64 ho.id
  have haf : IsU64 o.after := isU64 ho.after
  have hnid := numB_length_le o.id hid
  have hnaf := numB_length_le o.after haf
  have wk : IntKind.u8.wrap o.kind = ((okindB o).toNat : Int) := by rw [okindB_toNat hk14.1 hk14.2, IntKind.wrap_u8]; omega
  refine dcalls_inline mixed Tryz.func54 rfl (fun _ _ => by kernel_rfl) (rs := []) rfl (by kernel_rfl) (fun hS => ?_)
  (simp (disch := first | decide | omega | (simp only [nx]; first | done | omega)) only [go_sem, opCs, cv_i64u8, wk]; (repeat with_reducible refine aI ?_))
  refine (byte_w (okindB o) (by show k < S.next + 1; omega) (h.add hS _) (by omega)).wf.mono ?_
  rintro _ U1 ⟨⟨rfl, hW1, hF1⟩, hU1⟩
  have t1 := hF1.box S.next _ _ (by omega) (add_eq (S := S))
  have hn1 : S.next + 1 ≤ U1.next := hF1.next
  (simp (disch := first | decide | omega | (simp only [nx]; first | done | omega)) only [go_sem, t1, opCs]; (repeat with_reducible refine aI ?_))
  refine (write_w .no o.path (by omega) hW1 (by omega) (fun p hp => ⟨p2 p hp, hu p hp⟩) (by simp; omega)).wf.mono ?_
  rintro _ U2 ⟨⟨rfl, hW2, hF2⟩, hU2⟩
  have t2 := hF2.box S.next _ _ (by omega) t1
  have hn2 := hF2.next
  rw [writeB, if_pos hrp] at hW2
  rcases hcs with ⟨e1, -, -, hrv⟩ | ⟨e2, -, -, hrv⟩ | ⟨e3, -⟩ | ⟨e4, -⟩
  · have n1 : (o.kind == 1) = true := by simp [e1]
    have n2 : (o.kind == 2) = false := by simp [e1]
    have n3 : (o.kind == 3) = false := by simp [e1]
    have n4 : (o.kind == 4) = false := by simp [e1]
    (simp (disch := first | decide | omega | (simp only [nx]; first | done | omega)) only [go_sem, t2, opCs, n1, n2, n3, n4]; (repeat with_reducible refine aI ?_))
    refine DCalls.of_pure (encode_d o.val ho.val (by have := ho.wt; omega)) ?_
    rw [encRes, if_neg (by rw [hrv]; simp), if_neg (by have := hv (by omega); omega)]
    (simp (disch := first | decide | omega | (simp only [nx]; first | done | omega)) only [go_sem]; (repeat with_reducible refine aI ?_))
    refine (raw_w .no (bytesOfV o.val) (by omega) hW2 (by have := hv (by omega); simp only [List.length_append, List.length_cons, List.length_nil]; omega)).wf.mono ?_
    rintro _ U3 ⟨⟨rfl, hW3, hF3⟩, hU3⟩
    have t3 := hF3.box S.next _ _ (by omega) t2
    have hn3 := hF3.next
    (simp (disch := first | decide | omega | (simp only [nx]; first | done | omega)) only [go_sem, t3, opCs, n1, n2, n3, n4]; (repeat with_reducible refine aI ?_))
    have hres : bs ++ bytesO o = bs ++ [okindB o] ++ pathB o.path ++ bytesOfV o.val := by simp [bytesO, e1]
    rw [hres]
    exact ⟨hW3, (WFr.add (WFr.refl k S) hS _).trans ((hF1.trans hF2).trans hF3)⟩
  · have n1 : (o.kind == 1) = false := by simp [e2]
    have n2 : (o.kind == 2) = true := by simp [e2]
    have n3 : (o.kind == 3) = false := by simp [e2]
    have n4 : (o.kind == 4) = false := by simp [e2]
    (simp (disch := first | decide | omega | (simp only [nx]; first | done | omega)) only [go_sem, t2, opCs, n1, n2, n3, n4]; (repeat with_reducible refine aI ?_))
    refine (number_w o.id hid (by omega) hW2 (by simp only [List.length_append, List.length_cons, List.length_nil]; omega)).wf.mono ?_
    rintro _ U3 ⟨⟨rfl, hW3, hF3⟩, hU3⟩
    have t3 := hF3.box S.next _ _ (by omega) t2
    have hn3 := hF3.next
    (simp (disch := first | decide | omega | (simp only [nx]; first | done | omega)) only [go_sem, t3, opCs, n1, n2, n3, n4]; (repeat with_reducible refine aI ?_))
    refine (number_w o.after haf (by omega) hW3 (by simp only [List.length_append, List.length_cons, List.length_nil]; omega)).wf.mono ?_
    rintro _ U4 ⟨⟨rfl, hW4, hF4⟩, hU4⟩
    have t4 := hF4.box S.next _ _ (by omega) t3
    have hn4 := hF4.next
    (simp (disch := first | decide | omega | (simp only [nx]; first | done | omega)) only [go_sem, t4, opCs, n1, n2, n3, n4]; (repeat with_reducible refine aI ?_))
    refine DCalls.of_pure (encode_d o.val ho.val (by have := ho.wt; omega)) ?_
    rw [encRes, if_neg (by rw [hrv]; simp), if_neg (by have := hv (by omega); omega)]
    (simp (disch := first | decide | omega | (simp only [nx]; first | done | omega)) only [go_sem]; (repeat with_reducible refine aI ?_))
    refine (raw_w .no (bytesOfV o.val) (by omega) hW4 (by have := hv (by omega); simp only [List.length_append, List.length_cons, List.length_nil]; omega)).wf.mono ?_
    rintro _ U5 ⟨⟨rfl, hW5, hF5⟩, hU5⟩
    have t5 := hF5.box S.next _ _ (by omega) t4
    have hn5 := hF5.next
    (simp (disch := first | decide | omega | (simp only [nx]; first | done | omega)) only [go_sem, t5, opCs, n1, n2, n3, n4]; (repeat with_reducible refine aI ?_))
    have hres : bs ++ bytesO o = bs ++ [okindB o] ++ pathB o.path ++ numB o.id ++ numB o.after ++ bytesOfV o.val := by simp [bytesO, e2]
    rw [hres]
    exact ⟨hW5, (WFr.add (WFr.refl k S) hS _).trans ((((hF1.trans hF2).trans hF3).trans hF4).trans hF5)⟩
  · have n1 : (o.kind == 1) = false := by simp [e3]
    have n2 : (o.kind == 2) = false := by simp [e3]
    have n3 : (o.kind == 3) = true := by simp [e3]
    have n4 : (o.kind == 4) = false := by simp [e3]
    (simp (disch := first | decide | omega | (simp only [nx]; first | done | omega)) only [go_sem, t2, opCs, n1, n2, n3, n4]; (repeat with_reducible refine aI ?_))
    refine (number_w o.id hid (by omega) hW2 (by simp only [List.length_append, List.length_cons, List.length_nil]; omega)).wf.mono ?_
    rintro _ U3 ⟨⟨rfl, hW3, hF3⟩, hU3⟩
    have t3 := hF3.box S.next _ _ (by omega) t2
    have hn3 := hF3.next
    (simp (disch := first | decide | omega | (simp only [nx]; first | done | omega)) only [go_sem, t3, opCs, n1, n2, n3, n4]; (repeat with_reducible refine aI ?_))
    have hres : bs ++ bytesO o = bs ++ [okindB o] ++ pathB o.path ++ numB o.id := by simp [bytesO, e3]
    rw [hres]
    exact ⟨hW3, (WFr.add (WFr.refl k S) hS _).trans ((hF1.trans hF2).trans hF3)⟩
  · have n1 : (o.kind == 1) = false := by simp [e4]
    have n2 : (o.kind == 2) = false := by simp [e4]
    have n3 : (o.kind == 3) = false := by simp [e4]
    have n4 : (o.kind == 4) = true := by simp [e4]
    (simp (disch := first | decide | omega | (simp only [nx]; first | done | omega)) only [go_sem, t2, opCs, n1, n2, n3, n4]; (repeat with_reducible refine aI ?_))
    refine (number_w o.id hid (by omega) hW2 (by simp only [List.length_append, List.length_cons, List.length_nil]; omega)).wf.mono ?_
    rintro _ U3 ⟨⟨rfl, hW3, hF3⟩, hU3⟩
    have t3 := hF3.box S.next _ _ (by omega) t2
    have hn3 := hF3.next
    (simp (disch := first | decide | omega | (simp only [nx]; first | done | omega)) only [go_sem, t3, opCs, n1, n2, n3, n4]; (repeat with_reducible refine aI ?_))
    refine (number_w o.after haf (by omega) hW3 (by simp only [List.length_append, List.length_cons, List.length_nil]; omega)).wf.mono ?_
    rintro _ U4 ⟨⟨rfl, hW4, hF4⟩, hU4⟩
    have t4 := hF4.box S.next _ _ (by omega) t3
    have hn4 := hF4.next
    (simp (disch := first | decide | omega | (simp only [nx]; first | done | omega)) only [go_sem, t4, opCs, n1, n2, n3, n4]; (repeat with_reducible refine aI ?_))
    have hres : bs ++ bytesO o = bs ++ [okindB o] ++ pathB o.path ++ numB o.id ++ numB o.after := by simp [bytesO, e4]
    rw [hres]
    exact ⟨hW4, (WFr.add (WFr.refl k S) hS _).trans (((hF1.trans hF2).trans hF3).trans hF4)⟩
noncomputable def encRO (o : DOp) : D :=
  if rightO o = false then .tup [.sl .no [], errO 1]
  else if 4096 < (bytesO o).length then .tup [.sl .no [], errO 3]
  else .tup [.sl .no ((bytesO o).map bD), errO 0]
theorem encRO_closed (o : DOp) : (encRO o).closed := by
  have h := closed_bDs (bytesO o)
  unfold encRO errO
  split
  · simp [D.closed, D.all, allL, Own.all]
  · split
    · simp [D.closed, D.all, allL, Own.all]
    · simp only [D.closed, D.all, allL, Own.all, if_true] at h ⊢
      exact ⟨⟨trivial, h.2⟩, trivial, trivial⟩
theorem bytesO_val (o : DOp) (h : o.kind = 1 ∨ o.kind = 2) : (bytesOfV o.val).length ≤ (bytesO o).length := by
  unfold bytesO
  rw [if_pos h]
  simp only [List.length_append]; omega
theorem bytesO_len {o : DOp} (ho : OkO o) (hr : rightO o = true) (hu : ∀ p ∈ o.path, IsU64 p.2) : (bytesO o).length ≤ 200000 := by
  obtain ⟨hrp, hcs⟩ := rightO_cases hr
  have hpB := (path_small ho hrp).2.2 hu
  have h1 := numB_length_le o.id (isU64 ho.id)
  have h2 := numB_length_le o.after (isU64 ho.after)
  have h3 : (if o.kind = 1 ∨ o.kind = 2 then bytesOfV o.val else []).length ≤ 110000 := by
    split
    · have hrv : rightV 5 o.val = true := by rcases hcs with h | h | h | h; exact h.2.2.2; exact h.2.2.2; omega; omega
      have := bytesV_len o.val.depth o.val (Nat.le_refl _) (RV.of_right hrv) ho.val
      have := ho.wt
      show (bytesV o.val.depth o.val).length ≤ _
      omega
    · simp
  have h4 : (if o.kind = 1 then [] else numB o.id).length ≤ 10 := by split; simp; exact h1
  have h5 : (if o.kind = 2 ∨ o.kind = 4 then numB o.after else []).length ≤ 10 := by split; exact h2; simp
  unfold bytesO
  simp only [List.length_append, List.length_cons, List.length_nil]
  omega
theorem encodeO_d (o : DOp) (ho : OkO o) (hu : ∀ p ∈ o.path, IsU64 p.2) : DPure Tryz.prog 24 [encO o] (encRO o) := by
  refine dpure_of_dwp mixed Tryz.func24 rfl (fun _ _ => by kernel_rfl) (rs := [.tmp 2, .tmp 3]) rfl (by kernel_rfl) (encRO_closed o) (fun S hS => ?_)
  (simp (disch := first | decide | omega | (simp only [nx]; first | done | omega)) only [go_sem, opCs]; (repeat with_reducible refine aI ?_))
  refine DCalls.of_pure (right_o o ho) ?_
  by_cases hr : rightO o = true
  rotate_left
  · rw [Bool.eq_false_iff.2 hr]
    (simp (disch := first | decide | omega | (simp only [nx]; first | done | omega)) only [go_sem]; (repeat with_reducible refine aI ?_))
    refine ⟨?_, (by (repeat' first | assumption | exact St.Sub.refl _ | exact RowOk.sub (by assumption) (by assumption) | refine St.Sub.trans ?_ (RowOk.sub (by assumption) (by assumption)) | refine St.Sub.add ?_ ?_ _ | refine St.Sub.set ?_ ?_ ?_ _ | refine St.Sub.keep ?_ ?_ | refine St.WF.leave ?_ _ | refine St.WF.add ?_ _ | refine St.WF.set ?_ ?_ _ | refine St.WF.grow ?_ _ _ _ | refine St.WF.keep ?_ ?_ | (first | omega | (simp only [RowOk.lo, nx]; first | done | omega))))⟩
    rw [encRO, if_pos (Bool.eq_false_iff.2 hr)]
    rfl
  rw [hr]
  obtain ⟨hrp, hcs⟩ := rightO_cases hr
  have hol := bytesO_len ho hr hu
  by_cases hv : o.kind = 1 ∨ o.kind = 2
  · have hrv : rightV 5 o.val = true := by rcases hcs with h | h | h | h; exact h.2.2.2; exact h.2.2.2; omega; omega
    have hvl := bytesO_val o hv
    have hkk : (o.kind == 1) = true ∨ ((o.kind == 1) = false ∧ (o.kind == 2) = true) := by rcases hv with h | h <;> simp [h]
    have hval : ∀ {K : D → St → Prop} {S : St}, (4096 < (bytesOfV o.val).length → K (.tup [.sl .no [], errO 3]) S) → ((bytesOfV o.val).length ≤ 4096 → K (.tup [.sl .no ((bytesOfV o.val).map bD), .v .nilIface]) S) → DCalls Tryz.prog 53 [encV o.val] S K := fun h1 h2 => by
      refine DCalls.of_pure (encode_d o.val ho.val (by have := ho.wt; omega)) ?_
      unfold encRes
      rw [if_neg (by rw [hrv]; simp)]
      by_cases h4 : 4096 < (bytesOfV o.val).length
      · rw [if_pos h4]; exact h1 h4
      · rw [if_neg h4]; exact h2 (by omega)
    rcases hkk with k1 | ⟨k1, k2⟩
    · (simp (disch := first | decide | omega | (simp only [nx]; first | done | omega)) only [go_sem, opCs, k1]; (repeat with_reducible refine aI ?_))
      refine hval (fun h4 => ?_) (fun h4 => ?_)
      · (simp (disch := first | decide | omega | (simp only [nx]; first | done | omega)) only [go_sem, errO]; (repeat with_reducible refine aI ?_))
        refine ⟨?_, (by (repeat' first | assumption | exact St.Sub.refl _ | exact RowOk.sub (by assumption) (by assumption) | refine St.Sub.trans ?_ (RowOk.sub (by assumption) (by assumption)) | refine St.Sub.add ?_ ?_ _ | refine St.Sub.set ?_ ?_ ?_ _ | refine St.Sub.keep ?_ ?_ | refine St.WF.leave ?_ _ | refine St.WF.add ?_ _ | refine St.WF.set ?_ ?_ _ | refine St.WF.grow ?_ _ _ _ | refine St.WF.keep ?_ ?_ | (first | omega | (simp only [RowOk.lo, nx]; first | done | omega))))⟩
        rw [encRO, if_neg (by rw [hr]; simp), if_pos (by omega)]
        rfl
      · (simp (disch := first | decide | omega | (simp only [nx]; first | done | omega)) only [go_sem]; (repeat with_reducible refine aI ?_))
        refine (owrite_w (k := S.next + 1) (bs := []) o ho hr hu (fun h => h4) (by show S.next + 1 < S.next + 1 + 1; omega) ⟨.full, by (first | (simp (disch := first | decide | omega | (simp only [nx]; first | done | omega)) only [go_sem]; first | done | rfl) | rfl), .inl ⟨rfl, rfl⟩⟩ (by simp)).wf.mono ?_
        rintro _ T ⟨⟨rfl, hW, hF⟩, hT⟩
        rw [List.nil_append] at hW
        (simp (disch := first | decide | omega | (simp only [nx]; first | done | omega)) only [go_sem]; (repeat with_reducible refine aI ?_))
        refine (out_w hW (by omega)).wf.mono ?_
        rintro _ T1 ⟨⟨ow, rfl, hW1, hF1⟩, hT1⟩
        have hsub : S.Sub T1 := by
          have h1 := hF.trans hF1
          have hn := h1.next
          simp only [add_next] at hn
          exact ⟨by omega, fun j o' hj => h1.ob j o' (.inl (by have := hS.lt hj; omega)) (by have := hS.lt hj; rw [ob_skip (by simp only [add_next]; omega), ob_skip (by omega)]; exact hj)⟩
        by_cases h4 : 4096 < (bytesO o).length
        · have b1 : decide ((4096 : Int) < ((bytesO o).length : Int)) = true := by simp; omega
          (simp (disch := first | decide | omega | (simp only [nx]; first | done | omega)) only [go_sem, b1]; (repeat with_reducible refine aI ?_))
          refine ⟨?_, hsub⟩
          rw [encRO, if_neg (by rw [hr]; simp), if_pos h4]
          rfl
        · have b1 : decide ((4096 : Int) < ((bytesO o).length : Int)) = false := by simp; omega
          (simp (disch := first | decide | omega | (simp only [nx]; first | done | omega)) only [go_sem, b1]; (repeat with_reducible refine aI ?_))
          refine ⟨?_, hsub⟩
          rw [encRO, if_neg (by rw [hr]; simp), if_neg h4]
          simp only [D.frz, frzL, frz_bDs]
          rfl
    · (simp (disch := first | decide | omega | (simp only [nx]; first | done | omega)) only [go_sem, opCs, k1, k2]; (repeat with_reducible refine aI ?_))
      refine hval (fun h4 => ?_) (fun h4 => ?_)
      · (simp (disch := first | decide | omega | (simp only [nx]; first | done | omega)) only [go_sem, errO]; (repeat with_reducible refine aI ?_))
        refine ⟨?_, (by (repeat' first | assumption | exact St.Sub.refl _ | exact RowOk.sub (by assumption) (by assumption) | refine St.Sub.trans ?_ (RowOk.sub (by assumption) (by assumption)) | refine St.Sub.add ?_ ?_ _ | refine St.Sub.set ?_ ?_ ?_ _ | refine St.Sub.keep ?_ ?_ | refine St.WF.leave ?_ _ | refine St.WF.add ?_ _ | refine St.WF.set ?_ ?_ _ | refine St.WF.grow ?_ _ _ _ | refine St.WF.keep ?_ ?_ | (first | omega | (simp only [RowOk.lo, nx]; first | done | omega))))⟩
        rw [encRO, if_neg (by rw [hr]; simp), if_pos (by omega)]
        rfl
      · (simp (disch := first | decide | omega | (simp only [nx]; first | done | omega)) only [go_sem]; (repeat with_reducible refine aI ?_))
        refine (owrite_w (k := S.next + 1) (bs := []) o ho hr hu (fun h => h4) (by show S.next + 1 < S.next + 1 + 1; omega) ⟨.full, by (first | (simp (disch := first | decide | omega | (simp only [nx]; first | done | omega)) only [go_sem]; first | done | rfl) | rfl), .inl ⟨rfl, rfl⟩⟩ (by simp)).wf.mono ?_
        rintro _ T ⟨⟨rfl, hW, hF⟩, hT⟩
        rw [List.nil_append] at hW
        (simp (disch := first | decide | omega | (simp only [nx]; first | done | omega)) only [go_sem]; (repeat with_reducible refine aI ?_))
        refine (out_w hW (by omega)).wf.mono ?_
        rintro _ T1 ⟨⟨ow, rfl, hW1, hF1⟩, hT1⟩
        have hsub : S.Sub T1 := by
          have h1 := hF.trans hF1
          have hn := h1.next
          simp only [add_next] at hn
          exact ⟨by omega, fun j o' hj => h1.ob j o' (.inl (by have := hS.lt hj; omega)) (by have := hS.lt hj; rw [ob_skip (by simp only [add_next]; omega), ob_skip (by omega)]; exact hj)⟩
        by_cases h4 : 4096 < (bytesO o).length
        · have b1 : decide ((4096 : Int) < ((bytesO o).length : Int)) = true := by simp; omega
          (simp (disch := first | decide | omega | (simp only [nx]; first | done | omega)) only [go_sem, b1]; (repeat with_reducible refine aI ?_))
          refine ⟨?_, hsub⟩
          rw [encRO, if_neg (by rw [hr]; simp), if_pos h4]
          rfl
        · have b1 : decide ((4096 : Int) < ((bytesO o).length : Int)) = false := by simp; omega
          (simp (disch := first | decide | omega | (simp only [nx]; first | done | omega)) only [go_sem, b1]; (repeat with_reducible refine aI ?_))
          refine ⟨?_, hsub⟩
          rw [encRO, if_neg (by rw [hr]; simp), if_neg h4]
          simp only [D.frz, frzL, frz_bDs]
          rfl
  · have k1 : (o.kind == 1) = false := by simp; omega
    have k2 : (o.kind == 2) = false := by simp; omega
    (simp (disch := first | decide | omega | (simp only [nx]; first | done | omega)) only [go_sem, opCs, k1, k2]; (repeat with_reducible refine aI ?_))
    refine (owrite_w (k := S.next + 1) (bs := []) o ho hr hu (fun h => absurd h hv) (by show S.next + 1 < S.next + 1 + 1; omega) ⟨.full, by (first | (simp (disch := first | decide | omega | (simp only [nx]; first | done | omega)) only [go_sem]; first | done | rfl) | rfl), .inl ⟨rfl, rfl⟩⟩ (by simp)).wf.mono ?_
    rintro _ T ⟨⟨rfl, hW, hF⟩, hT⟩
    rw [List.nil_append] at hW
    (simp (disch := first | decide | omega | (simp only [nx]; first | done | omega)) only [go_sem]; (repeat with_reducible refine aI ?_))
    refine (out_w hW (by omega)).wf.mono ?_
    rintro _ T1 ⟨⟨ow, rfl, hW1, hF1⟩, hT1⟩
    have hsub : S.Sub T1 := by
      have h1 := hF.trans hF1
      have hn := h1.next
      simp only [add_next] at hn
      exact ⟨by omega, fun j o' hj => h1.ob j o' (.inl (by have := hS.lt hj; omega)) (by have := hS.lt hj; rw [ob_skip (by simp only [add_next]; omega), ob_skip (by omega)]; exact hj)⟩
    by_cases h4 : 4096 < (bytesO o).length
    · have b1 : decide ((4096 : Int) < ((bytesO o).length : Int)) = true := by simp; omega
      (simp (disch := first | decide | omega | (simp only [nx]; first | done | omega)) only [go_sem, b1]; (repeat with_reducible refine aI ?_))
      refine ⟨?_, hsub⟩
      rw [encRO, if_neg (by rw [hr]; simp), if_pos h4]
      rfl
    · have b1 : decide ((4096 : Int) < ((bytesO o).length : Int)) = false := by simp; omega
      (simp (disch := first | decide | omega | (simp only [nx]; first | done | omega)) only [go_sem, b1]; (repeat with_reducible refine aI ?_))
      refine ⟨?_, hsub⟩
      rw [encRO, if_neg (by rw [hr]; simp), if_neg h4]
      simp only [D.frz, frzL, frz_bDs]
      rfl
theorem refBytesO_d (o : DOp) (ho : OkO o) (hr : rightO o = true) (hu : ∀ p ∈ o.path, IsU64 p.2) : DPure Tryz.prog 25 [encO o] (.sl .no ((bytesO o).map bD)) := by
  refine dpure_newB fun S => ?_
  obtain ⟨hrp, hcs⟩ := rightO_cases hr
  obtain ⟨p1, p2, p3⟩ := path_small ho hrp
  have hpB := p3 hu
  have hk14 : 1 ≤ o.kind ∧ o.kind ≤ 4 := by omega
  have hid : IsU64 o.id := isU64 ho.id
  have haf : IsU64 o.after := isU64 ho.after
  have hnid := numB_length_le o.id hid
  have hnaf := numB_length_le o.after haf
  have wk : IntKind.u8.wrap o.kind = ((okindB o).toNat : Int) := by rw [okindB_toNat hk14.1 hk14.2, IntKind.wrap_u8]; omega
  refine dcalls_inline mixed Tryz.func25 rfl (fun _ _ => by kernel_rfl) (rs := [.tmp 2]) rfl (by kernel_rfl) (fun hS => ?_)
  (simp (disch := first | decide | omega | (simp only [nx]; first | done | omega)) only [go_sem]; (repeat with_reducible refine aI ?_))
  obtain ⟨S1, hS1e⟩ : ∃ S1, S.add (.box 44 (opCs .no o)) = S1 := ⟨_, rfl⟩
  have hS1 : S1.WF := by rw [← hS1e]; exact hS.add _
  have hnS : S1.next = S.next + 1 := by rw [← hS1e]; rfl
  have tS : S1.ob S.next = some (.box 44 (opCs .no o)) := by rw [← hS1e]; exact add_eq
  have hkS : ∀ j ob, S.ob j = some ob → S1.ob j = some ob := by rw [← hS1e]; exact add_keep hS _
  rw [hS1e]
  clear hS1e
  refine ddraw_mk 7 (by kernel_rfl) ?_
  (simp (disch := first | decide | omega | (simp only [nx]; first | done | omega)) only [go_sem, tS, opCs, cv_i64u8, wk]; (repeat with_reducible refine aI ?_))
  refine dqgo_mk (refPathB_d .no o.path (by omega) (fun p hp => ⟨p2 p hp, hu p hp⟩)) ?_
  (simp (disch := first | decide | omega | (simp only [nx]; first | done | omega)) only [go_sem, tS, opCs]; (repeat with_reducible refine aI ?_))
  refine dapp_bytes2 (bs := [okindB o]) (xs := pathB o.path) (.inl rfl) (by simp; omega) ?_
  have hN := NewB.grow (S := S1) (T := S1) (own := .full) (own2 := .full) (bs := [okindB o]) (xs := pathB o.path) hS1 (.inl rfl) (Nat.le_refl _) (fun _ _ h => h)
  rw [show ([okindB o] ++ pathB o.path) = oacc o 0 from by simp only [oacc]] at hN ⊢
  revert hN
  generalize St.grow S1 .full 5 ([okindB o].length + (pathB o.path).length) = T0
  rintro ⟨own0, q0, ho0, hT01, hT02⟩
  rw [q0]
  have t0 := hT02 _ _ tS
  have l0 : (oacc o 0).length ≤ 5001 := by simp only [oacc]; simp; omega
  have hval : rightV 5 o.val = true → (bytesOfV o.val).length ≤ 110000 := fun hrv => by
    have := bytesV_len o.val.depth o.val (Nat.le_refl _) (RV.of_right hrv) ho.val
    have := ho.wt
    show (bytesV o.val.depth o.val).length ≤ _
    omega
  rcases hcs with ⟨e1, -, -, hrv⟩ | ⟨e2, -, -, hrv⟩ | ⟨e3, -⟩ | ⟨e4, -⟩
  · have g1 : decide (1 < o.kind) = false := by simp; omega
    have n2 : (o.kind == 2) = false := by simp [e1]
    have n4 : (o.kind == 4) = false := by simp [e1]
    have hvd : valued o.kind = true := by simp [valued, e1]
    (simp (disch := first | decide | omega | (simp only [nx]; first | done | omega)) only [go_sem, t0, opCs, g1, n2, n4]; (repeat with_reducible refine aI ?_))
    refine DCalls.of_pure (refValued_d o.kind) ?_
    rw [hvd]
    (simp (disch := first | decide | omega | (simp only [nx]; first | done | omega)) only [go_sem, t0, opCs]; (repeat with_reducible refine aI ?_))
    have hvl := hval hrv
    refine DCalls.of_pure (refValB_d o.val.depth o.val (Nat.le_refl _) (RV.of_right hrv) ho.val (by have := ho.wt; omega)) ?_
    (simp (disch := first | decide | omega | (simp only [nx]; first | done | omega)) only [go_sem]; (repeat with_reducible refine aI ?_))
    refine dapp_bytes2 (bs := oacc o 0) (xs := bytesOfV o.val) (ho0.imp id fun ⟨g, h1, _, h2⟩ => ⟨g, h1, h2⟩) (by omega) ?_
    have hN := NewB.grow (own2 := .full) (xs := bytesOfV o.val) hS1 ho0 hT01 hT02
    (simp (disch := first | decide | omega | (simp only [nx]; first | done | omega)) only [go_sem]; (repeat with_reducible refine aI ?_))
    rw [show bytesO o = oacc o 0 ++ bytesOfV o.val by simp [bytesO, oacc, e1]]
    exact hN.weak (by omega) hkS
  · have g1 : decide (1 < o.kind) = true := by simp; omega
    have n2 : (o.kind == 2) = true := by simp [e2]
    have n4 : (o.kind == 4) = false := by simp [e2]
    have hvd : valued o.kind = true := by simp [valued, e2]
    (simp (disch := first | decide | omega | (simp only [nx]; first | done | omega)) only [go_sem, t0, opCs, g1, n2, n4]; (repeat with_reducible refine aI ?_))
    refine DCalls.of_pure (refNum_d o.id hid) ?_
    (simp (disch := first | decide | omega | (simp only [nx]; first | done | omega)) only [go_sem]; (repeat with_reducible refine aI ?_))
    refine dapp_bytes2 (bs := oacc o 0) (xs := numB o.id) (ho0.imp id fun ⟨g, h1, _, h2⟩ => ⟨g, h1, h2⟩) (by omega) ?_
    have hN := NewB.grow (own2 := .full) (xs := numB o.id) hS1 ho0 hT01 hT02
    rw [show oacc o 0 ++ numB o.id = oacc o 1 from by simp only [oacc]] at hN ⊢
    revert hN
    generalize St.grow T0 own0 5 ((oacc o 0).length + (numB o.id).length) = T1
    rintro ⟨own1, q1, ho1, hT11, hT12⟩
    rw [q1]
    have t1 := hT12 _ _ tS
    have l1 : (oacc o 1).length ≤ 5001 + 10 * 1 := by rw [show oacc o 1 = oacc o 0 ++ numB o.id from by simp only [oacc], List.length_append]; omega
    (simp (disch := first | decide | omega | (simp only [nx]; first | done | omega)) only [go_sem, t1, opCs, n2, n4]; (repeat with_reducible refine aI ?_))
    refine DCalls.of_pure (refNum_d o.after haf) ?_
    (simp (disch := first | decide | omega | (simp only [nx]; first | done | omega)) only [go_sem]; (repeat with_reducible refine aI ?_))
    refine dapp_bytes2 (bs := oacc o 1) (xs := numB o.after) (ho1.imp id fun ⟨g, h1, _, h2⟩ => ⟨g, h1, h2⟩) (by omega) ?_
    have hN := NewB.grow (own2 := .full) (xs := numB o.after) hS1 ho1 hT11 hT12
    rw [show oacc o 1 ++ numB o.after = oacc o 2 from by simp only [oacc]] at hN ⊢
    revert hN
    generalize St.grow T1 own1 5 ((oacc o 1).length + (numB o.after).length) = T2
    rintro ⟨own2, q2, ho2, hT21, hT22⟩
    rw [q2]
    have t2 := hT22 _ _ tS
    have l2 : (oacc o 2).length ≤ 5001 + 10 * 2 := by rw [show oacc o 2 = oacc o 1 ++ numB o.after from by simp only [oacc], List.length_append]; omega
    (simp (disch := first | decide | omega | (simp only [nx]; first | done | omega)) only [go_sem, t2, opCs, n2, n4]; (repeat with_reducible refine aI ?_))
    refine DCalls.of_pure (refValued_d o.kind) ?_
    rw [hvd]
    (simp (disch := first | decide | omega | (simp only [nx]; first | done | omega)) only [go_sem, t2, opCs]; (repeat with_reducible refine aI ?_))
    have hvl := hval hrv
    refine DCalls.of_pure (refValB_d o.val.depth o.val (Nat.le_refl _) (RV.of_right hrv) ho.val (by have := ho.wt; omega)) ?_
    (simp (disch := first | decide | omega | (simp only [nx]; first | done | omega)) only [go_sem]; (repeat with_reducible refine aI ?_))
    refine dapp_bytes2 (bs := oacc o 2) (xs := bytesOfV o.val) (ho2.imp id fun ⟨g, h1, _, h2⟩ => ⟨g, h1, h2⟩) (by omega) ?_
    have hN := NewB.grow (own2 := .full) (xs := bytesOfV o.val) hS1 ho2 hT21 hT22
    (simp (disch := first | decide | omega | (simp only [nx]; first | done | omega)) only [go_sem]; (repeat with_reducible refine aI ?_))
    rw [show bytesO o = oacc o 2 ++ bytesOfV o.val by simp [bytesO, oacc, e2]]
    exact hN.weak (by omega) hkS
  · have g1 : decide (1 < o.kind) = true := by simp; omega
    have n2 : (o.kind == 2) = false := by simp [e3]
    have n4 : (o.kind == 4) = false := by simp [e3]
    have hvd : valued o.kind = false := by simp [valued, e3]
    (simp (disch := first | decide | omega | (simp only [nx]; first | done | omega)) only [go_sem, t0, opCs, g1, n2, n4]; (repeat with_reducible refine aI ?_))
    refine DCalls.of_pure (refNum_d o.id hid) ?_
    (simp (disch := first | decide | omega | (simp only [nx]; first | done | omega)) only [go_sem]; (repeat with_reducible refine aI ?_))
    refine dapp_bytes2 (bs := oacc o 0) (xs := numB o.id) (ho0.imp id fun ⟨g, h1, _, h2⟩ => ⟨g, h1, h2⟩) (by omega) ?_
    have hN := NewB.grow (own2 := .full) (xs := numB o.id) hS1 ho0 hT01 hT02
    rw [show oacc o 0 ++ numB o.id = oacc o 1 from by simp only [oacc]] at hN ⊢
    revert hN
    generalize St.grow T0 own0 5 ((oacc o 0).length + (numB o.id).length) = T1
    rintro ⟨own1, q1, ho1, hT11, hT12⟩
    rw [q1]
    have t1 := hT12 _ _ tS
    have l1 : (oacc o 1).length ≤ 5001 + 10 * 1 := by rw [show oacc o 1 = oacc o 0 ++ numB o.id from by simp only [oacc], List.length_append]; omega
    (simp (disch := first | decide | omega | (simp only [nx]; first | done | omega)) only [go_sem, t1, opCs, n2, n4]; (repeat with_reducible refine aI ?_))
    refine DCalls.of_pure (refValued_d o.kind) ?_
    rw [hvd]
    (simp (disch := first | decide | omega | (simp only [nx]; first | done | omega)) only [go_sem, t1, opCs]; (repeat with_reducible refine aI ?_))
    rw [show bytesO o = oacc o 1 by simp [bytesO, oacc, e3]]
    exact NewB.weak (S1 := S1) ⟨own1, rfl, ho1, hT11, hT12⟩ (by omega) hkS
  · have g1 : decide (1 < o.kind) = true := by simp; omega
    have n2 : (o.kind == 2) = false := by simp [e4]
    have n4 : (o.kind == 4) = true := by simp [e4]
    have hvd : valued o.kind = false := by simp [valued, e4]
    (simp (disch := first | decide | omega | (simp only [nx]; first | done | omega)) only [go_sem, t0, opCs, g1, n2, n4]; (repeat with_reducible refine aI ?_))
    refine DCalls.of_pure (refNum_d o.id hid) ?_
    (simp (disch := first | decide | omega | (simp only [nx]; first | done | omega)) only [go_sem]; (repeat with_reducible refine aI ?_))
    refine dapp_bytes2 (bs := oacc o 0) (xs := numB o.id) (ho0.imp id fun ⟨g, h1, _, h2⟩ => ⟨g, h1, h2⟩) (by omega) ?_
    have hN := NewB.grow (own2 := .full) (xs := numB o.id) hS1 ho0 hT01 hT02
    rw [show oacc o 0 ++ numB o.id = oacc o 1 from by simp only [oacc]] at hN ⊢
    revert hN
    generalize St.grow T0 own0 5 ((oacc o 0).length + (numB o.id).length) = T1
    rintro ⟨own1, q1, ho1, hT11, hT12⟩
    rw [q1]
    have t1 := hT12 _ _ tS
    have l1 : (oacc o 1).length ≤ 5001 + 10 * 1 := by rw [show oacc o 1 = oacc o 0 ++ numB o.id from by simp only [oacc], List.length_append]; omega
    (simp (disch := first | decide | omega | (simp only [nx]; first | done | omega)) only [go_sem, t1, opCs, n2, n4]; (repeat with_reducible refine aI ?_))
    refine DCalls.of_pure (refNum_d o.after haf) ?_
    (simp (disch := first | decide | omega | (simp only [nx]; first | done | omega)) only [go_sem]; (repeat with_reducible refine aI ?_))
    refine dapp_bytes2 (bs := oacc o 1) (xs := numB o.after) (ho1.imp id fun ⟨g, h1, _, h2⟩ => ⟨g, h1, h2⟩) (by omega) ?_
    have hN := NewB.grow (own2 := .full) (xs := numB o.after) hS1 ho1 hT11 hT12
    rw [show oacc o 1 ++ numB o.after = oacc o 2 from by simp only [oacc]] at hN ⊢
    revert hN
    generalize St.grow T1 own1 5 ((oacc o 1).length + (numB o.after).length) = T2
    rintro ⟨own2, q2, ho2, hT21, hT22⟩
    rw [q2]
    have t2 := hT22 _ _ tS
    have l2 : (oacc o 2).length ≤ 5001 + 10 * 2 := by rw [show oacc o 2 = oacc o 1 ++ numB o.after from by simp only [oacc], List.length_append]; omega
    (simp (disch := first | decide | omega | (simp only [nx]; first | done | omega)) only [go_sem, t2, opCs, n2, n4]; (repeat with_reducible refine aI ?_))
    refine DCalls.of_pure (refValued_d o.kind) ?_
    rw [hvd]
    (simp (disch := first | decide | omega | (simp only [nx]; first | done | omega)) only [go_sem, t2, opCs]; (repeat with_reducible refine aI ?_))
    rw [show bytesO o = oacc o 2 by simp [bytesO, oacc, e4]]
    exact NewB.weak (S1 := S1) ⟨own2, rfl, ho2, hT21, hT22⟩ (by omega) hkS
theorem valRead_r (v : DVal) {S : St} {k : Nat} {L rest : List UInt8} {i : Nat} (hr : rightV 5 v = true) (ho : okV v) (hk : k < S.next) (hR : RAt k L i S) (hL : L.length ≤ 1099511627776) (hi : i ≤ L.length) (hb : L.drop i = bytesOfV v ++ rest) :
    DCalls Tryz.prog 98 [.loc k 0] S fun d T => d = encV v ∧ RAt k L (i + (bytesOfV v).length) T ∧ RFr k S T := by
  have hd5 : v.depth ≤ 5 := by
    have := right_soundV 5 v v.depth (Nat.le_refl _)
    rw [hr] at this
    have := ((Bool.and_eq_true _ _).mp this.symm).1
    exact of_decide_eq_true this
  refine dcalls_inline mixed Tryz.func98 rfl (fun _ _ => by kernel_rfl) (rs := [.cell 2 29]) rfl (by kernel_rfl) (fun hS => ?_)
  (simp (disch := first | decide | omega | (simp only [nx]; first | done | omega)) only [go_sem]; (repeat with_reducible refine aI ?_))
  refine (vread_r v.depth v (Nat.le_refl _) (deep := 5) hd5 (by omega) (RV.of_right hr) ho (by show k < S.next + 1; omega) (hR.keep (add_keep hS _)) hL hi hb).wf.mono ?_
  rintro _ T ⟨⟨rfl, h1, hF⟩, hT⟩
  have z := hF.box S.next _ _ (by omega) (add_eq (S := S))
  (simp (disch := first | decide | omega | (simp only [nx]; first | done | omega)) only [go_sem, z]; (repeat with_reducible refine aI ?_))
  refine ⟨h1.obk (set_ne (by omega)) rfl, ⟨by have := hF.next; exact Nat.le_trans (Nat.le_succ _) this, fun j o hj e => ?_⟩⟩
  have := hS.lt e
  exact (set_ne (by omega)).trans (hF.ob j o hj (add_keep hS _ j o e))
theorem oread_r {S : St} {k : Nat} {L rest : List UInt8} {i : Nat} (o : DOp) (ho : OkO o) (hr : rightO o = true) (hu : ∀ p ∈ o.path, IsU64 p.2) (hk : k < S.next) (hR : RAt k L i S) (hL : L.length ≤ 1099511627776) (hi : i ≤ L.length) (hb : L.drop i = bytesO o ++ rest) :
    DCalls Tryz.prog 60 [.loc k 0] S fun d T => d = encO o ∧ RAt k L (i + (bytesO o).length) T ∧ RFr k S T := by
  obtain ⟨hrp, hcs⟩ := rightO_cases hr
  obtain ⟨p1, p2, p3⟩ := path_small ho hrp
  have hk14 : 1 ≤ o.kind ∧ o.kind ≤ 4 := by omega
  have hid : IsU64 o.id := isU64 ho.id
  have haf : IsU64 o.after := isU64 ho.after
  have wk : IntKind.i64.wrap ((okindB o).toNat : Int) = o.kind := by rw [okindB_toNat hk14.1 hk14.2]; exact IntWalk.i64_in _ ⟨by omega, by omega⟩
  have hlen := congrArg List.length hb
  rw [List.length_drop, List.length_append] at hlen
  obtain ⟨X, hX⟩ : ∃ X, bytesO o = [okindB o] ++ (pathB o.path ++ X) := ⟨_, by unfold bytesO; simp only [List.append_assoc]; rfl⟩
  have hXl := congrArg List.length hX
  simp only [List.length_append, List.length_cons, List.length_nil] at hXl
  refine DCalls.frz (K := fun d T => d.frz = encO o ∧ RAt k L (i + (bytesO o).length) T ∧ RFr k S T) ?_ (fun d T h => h)
  refine dcalls_inline mixed Tryz.func60 rfl (fun _ _ => by kernel_rfl) (rs := [.cell 2 44]) rfl (by kernel_rfl) (fun hS => ?_)
  (simp (disch := first | decide | omega | (simp only [nx]; first | done | omega)) only [go_sem]; (repeat with_reducible refine aI ?_))
  refine (byte_r (c := okindB o) (rest := pathB o.path ++ X ++ rest) (by show k < S.next + 1; omega) (hR.keep (add_keep hS _)) hL hi (by rw [hb, hX]; simp)).wf.mono ?_
  rintro _ T0 ⟨⟨rfl, h0, hF0⟩, hT0⟩
  have hn0 : S.next + 1 ≤ T0.next := hF0.next
  have z0 := hF0.box S.next _ _ (by omega) (add_eq (S := S))
  have hFS : RFr k S T0 := (RFr.add (RFr.refl k S) hS _).trans hF0
  have hkq : k ≠ T0.next := by omega
  have hzq : S.next < T0.next := by omega
  (simp (disch := first | decide | omega | (simp only [nx]; first | done | omega)) only [go_sem, bD, cv_u8i64, wk]; (repeat with_reducible refine aI ?_))
  obtain ⟨T1, hT1e⟩ : ∃ T1 : St, T1 = (T0.add (.box 44 [.v (.int .i64 0), .sl .full [], .v (.int .u64 0), .v (.int .u64 0), .v (.int .i64 0), .v (.int .i64 0), .v (.string ⟨#[]⟩), .sl .full [], .sl .full [], .sl .full []])).set T0.next (.box 44 (.v (.int .i64 o.kind) :: [.sl .full [], .v (.int .u64 0), .v (.int .u64 0), .v (.int .i64 0), .v (.int .i64 0), .v (.string ⟨#[]⟩), .sl .full [], .sl .full [], .sl .full []])) := ⟨_, rfl⟩
  have r1 : RSt S k L T0.next 44 (i + 1) (.v (.int .i64 o.kind) :: [.sl .full [], .v (.int .u64 0), .v (.int .u64 0), .v (.int .i64 0), .v (.int .i64 0), .v (.string ⟨#[]⟩), .sl .full [], .sl .full [], .sl .full []]) [.v (.int .i64 0), .sl .full [], .v (.int .u64 0), .v (.int .u64 0), .v (.int .i64 0), .v (.int .i64 0), .v (.string ⟨#[]⟩), .sl .full [], .sl .full [], .sl .full []] T1 := by
    have r0 : RSt S k L T0.next 44 (i + 1) [.v (.int .i64 0), .sl .full [], .v (.int .u64 0), .v (.int .u64 0), .v (.int .i64 0), .v (.int .i64 0), .v (.string ⟨#[]⟩), .sl .full [], .sl .full [], .sl .full []] [.v (.int .i64 0), .sl .full [], .v (.int .u64 0), .v (.int .u64 0), .v (.int .i64 0), .v (.int .i64 0), .v (.string ⟨#[]⟩), .sl .full [], .sl .full [], .sl .full []] (T0.add (.box 44 [.v (.int .i64 0), .sl .full [], .v (.int .u64 0), .v (.int .u64 0), .v (.int .i64 0), .v (.int .i64 0), .v (.string ⟨#[]⟩), .sl .full [], .sl .full [], .sl .full []])) := ⟨hT0.add _, h0.keep (add_keep hT0 _), add_eq, add_keep hT0 _ _ _ z0, hFS.trans ⟨Nat.le_succ _, fun j o _ e => add_keep hT0 _ j o e⟩⟩
    rw [hT1e]; exact r0.put hS hzq hkq
  rw [← hT1e]
  have hn1 : T0.next + 1 = T1.next := by rw [hT1e]; rfl
  clear hT1e
  have b1 : decide (o.kind < 1) = false := by simp; omega
  have b2 : decide (4 < o.kind) = false := by simp; omega
  have tb1 := r1.box
  (simp (disch := first | decide | omega | (simp only [nx]; first | done | omega)) only [go_sem, tb1, b1, b2]; (repeat with_reducible refine aI ?_))
  have hi1 : i + 1 ≤ L.length := by omega
  have hd1 : L.drop (i + 1) = pathB o.path ++ (X ++ rest) := by rw [← List.drop_drop, hb, hX]; simp
  refine (read_r o.path (by omega) r1.rd hL hi1 hd1 hrp hu).wf.mono ?_
  rintro _ T2 ⟨⟨⟨o1, rfl⟩, h2, hF2⟩, hT2⟩
  have r2 := r1.call h2 hF2 hT2 hkq hk
  have hn2 := hF2.next
  have tb2 := r2.box
  (simp (disch := first | decide | omega | (simp only [nx]; first | done | omega)) only [go_sem, tb2]; (repeat with_reducible refine aI ?_))
  have r3 := r2.put (cs' := .v (.int .i64 o.kind) :: .sl o1 (o.path.map encP) :: [.v (.int .u64 0), .v (.int .u64 0), .v (.int .i64 0), .v (.int .i64 0), .v (.string ⟨#[]⟩), .sl .full [], .sl .full [], .sl .full []]) hS hzq hkq
  revert r3
  generalize hT3e : St.set T2 _ _ = T3
  have hn3 : T3.next = T2.next := by rw [← hT3e]; rfl
  clear hT3e
  intro r3
  have tb3 := r3.box
  have hd3 : L.drop (i + 1 + (pathB o.path).length) = X ++ rest := by rw [← List.drop_drop, hd1, List.drop_left]
  have hi3 : i + 1 + (pathB o.path).length ≤ L.length := by omega
  rcases hcs with ⟨e1, hz1, hz2, hrv⟩ | ⟨e2, hz1, hz2, hrv⟩ | ⟨e3, hz1, hz2, hz3⟩ | ⟨e4, hz1, hz2, hz3⟩
  · have n1 : (o.kind == 1) = true := by simp [e1]
    have n2 : (o.kind == 2) = false := by simp [e1]
    have n3 : (o.kind == 3) = false := by simp [e1]
    have n4 : (o.kind == 4) = false := by simp [e1]
    have hXe : X = bytesOfV o.val := by
      have := hX
      unfold bytesO at this
      simp [e1] at this
      exact this.symm
    rw [hXe] at hd3 hXl
    (simp (disch := first | decide | omega | (simp only [nx]; first | done | omega)) only [go_sem, tb3, n1, n2, n3, n4]; (repeat with_reducible refine aI ?_))
    refine (valRead_r o.val hrv ho.val (rest := rest) (by omega) r3.rd hL hi3 hd3).wf.mono ?_
    rintro _ T4 ⟨⟨rfl, h4, hF4⟩, hT4⟩
    have r4 := r3.call h4 hF4 hT4 hkq hk
    have hn4 := hF4.next
    have tb4 := r4.box
    (simp (disch := first | decide | omega | (simp only [nx]; first | done | omega)) only [go_sem, tb4]; (repeat with_reducible refine aI ?_))
    have r5 := r4.put (cs' := .v (.int .i64 o.kind) :: .sl o1 (o.path.map encP) :: .v (.int .u64 0) :: .v (.int .u64 0) :: (encV o.val).cells) hS hzq hkq
    revert r5
    generalize hT5e : St.set T4 _ _ = T5
    have hn5 : T5.next = T4.next := by rw [← hT5e]; rfl
    clear hT5e
    intro r5
    have tb5 := r5.box
    refine (err_r r5.rd).mono ?_
    rintro _ _ ⟨rfl, he⟩
    rw [he]
    clear he
    have zz := r5.zero
    (simp (disch := first | decide | omega | (simp only [nx]; first | done | omega)) only [go_sem, tb5, zz]; (repeat with_reducible refine aI ?_))
    refine ⟨?_, ?_, ?_⟩
    · simp only [D.frz, frzL, frz_mapPk, frz_cellsV]
      unfold encO opCs
      rw [hz1, hz2]
      try rfl
    · refine r5.rd.obk (set_ne (by omega)) ?_
      (try simp only [List.length_append] at hXl); omega
    · exact ⟨r5.fr.next, fun j ob hj e => by have := hS.lt e; exact (set_ne (by omega)).trans (r5.fr.ob j ob hj e)⟩
  · have n1 : (o.kind == 1) = false := by simp [e2]
    have n2 : (o.kind == 2) = true := by simp [e2]
    have n3 : (o.kind == 3) = false := by simp [e2]
    have n4 : (o.kind == 4) = false := by simp [e2]
    have hXe : X = numB o.id ++ (numB o.after ++ bytesOfV o.val) := by
      have := hX
      unfold bytesO at this
      simp [e2] at this
      exact this.symm
    rw [hXe] at hd3 hXl
    (simp (disch := first | decide | omega | (simp only [nx]; first | done | omega)) only [go_sem, tb3, n1, n2, n3, n4]; (repeat with_reducible refine aI ?_))
    have bz : ((o.id : Int) == 0) = false := by simp; omega
    refine (number_r (mx := 18446744073709551615) (n := o.id) (s := (numB o.id).length) (by omega) r3.rd hL hi3 (by rw [hd3]; (try simp only [List.append_assoc]); exact numP_numB _ _ hid) (by unfold IsU64 at hid; omega)).wf.mono ?_
    rintro _ T4 ⟨⟨rfl, h4, hF4⟩, hT4⟩
    have r4 := r3.call h4 hF4 hT4 hkq hk
    have hn4 := hF4.next
    have tb4 := r4.box
    (simp (disch := first | decide | omega | (simp only [nx]; first | done | omega)) only [go_sem, tb4]; (repeat with_reducible refine aI ?_))
    have r5 := r4.put (cs' := .v (.int .i64 o.kind) :: .sl o1 (o.path.map encP) :: .v (.int .u64 (o.id : Int)) :: .v (.int .u64 0) :: [.v (.int .i64 0), .v (.int .i64 0), .v (.string ⟨#[]⟩), .sl .full [], .sl .full [], .sl .full []]) hS hzq hkq
    revert r5
    generalize hT5e : St.set T4 _ _ = T5
    have hn5 : T5.next = T4.next := by rw [← hT5e]; rfl
    clear hT5e
    intro r5
    have tb5 := r5.box
    (simp (disch := first | decide | omega | (simp only [nx]; first | done | omega)) only [go_sem, tb5, n1, n2, n3, n4, bz]; (repeat with_reducible refine aI ?_))
    have hd5 : L.drop (i + 1 + (pathB o.path).length + (numB o.id).length) = (numB o.after ++ bytesOfV o.val) ++ rest := by rw [← List.drop_drop, hd3]; (try simp only [List.append_assoc]); rw [List.drop_left]
    have hi5 : i + 1 + (pathB o.path).length + (numB o.id).length ≤ L.length := by (try simp only [List.length_append] at hXl); omega
    have ba : ((o.after : Int) == (o.id : Int)) = false := by simp; omega
    refine (number_r (mx := 18446744073709551615) (n := o.after) (s := (numB o.after).length) (by omega) r5.rd hL hi5 (by rw [hd5]; (try simp only [List.append_assoc]); exact numP_numB _ _ haf) (by unfold IsU64 at haf; omega)).wf.mono ?_
    rintro _ T6 ⟨⟨rfl, h6, hF6⟩, hT6⟩
    have r6 := r5.call h6 hF6 hT6 hkq hk
    have hn6 := hF6.next
    have tb6 := r6.box
    (simp (disch := first | decide | omega | (simp only [nx]; first | done | omega)) only [go_sem, tb6]; (repeat with_reducible refine aI ?_))
    have r7 := r6.put (cs' := .v (.int .i64 o.kind) :: .sl o1 (o.path.map encP) :: .v (.int .u64 (o.id : Int)) :: .v (.int .u64 (o.after : Int)) :: [.v (.int .i64 0), .v (.int .i64 0), .v (.string ⟨#[]⟩), .sl .full [], .sl .full [], .sl .full []]) hS hzq hkq
    revert r7
    generalize hT7e : St.set T6 _ _ = T7
    have hn7 : T7.next = T6.next := by rw [← hT7e]; rfl
    clear hT7e
    intro r7
    have tb7 := r7.box
    (simp (disch := first | decide | omega | (simp only [nx]; first | done | omega)) only [go_sem, tb7, n1, n2, n3, n4, ba]; (repeat with_reducible refine aI ?_))
    have hd7 : L.drop (i + 1 + (pathB o.path).length + (numB o.id).length + (numB o.after).length) = bytesOfV o.val ++ rest := by rw [← List.drop_drop, hd5]; (try simp only [List.append_assoc]); rw [List.drop_left]
    have hi7 : i + 1 + (pathB o.path).length + (numB o.id).length + (numB o.after).length ≤ L.length := by (try simp only [List.length_append] at hXl); omega
    refine (valRead_r o.val hrv ho.val (rest := rest) (by omega) r7.rd hL hi7 hd7).wf.mono ?_
    rintro _ T8 ⟨⟨rfl, h8, hF8⟩, hT8⟩
    have r8 := r7.call h8 hF8 hT8 hkq hk
    have hn8 := hF8.next
    have tb8 := r8.box
    (simp (disch := first | decide | omega | (simp only [nx]; first | done | omega)) only [go_sem, tb8]; (repeat with_reducible refine aI ?_))
    have r9 := r8.put (cs' := .v (.int .i64 o.kind) :: .sl o1 (o.path.map encP) :: .v (.int .u64 (o.id : Int)) :: .v (.int .u64 (o.after : Int)) :: (encV o.val).cells) hS hzq hkq
    revert r9
    generalize hT9e : St.set T8 _ _ = T9
    have hn9 : T9.next = T8.next := by rw [← hT9e]; rfl
    clear hT9e
    intro r9
    have tb9 := r9.box
    refine (err_r r9.rd).mono ?_
    rintro _ _ ⟨rfl, he⟩
    rw [he]
    clear he
    have zz := r9.zero
    (simp (disch := first | decide | omega | (simp only [nx]; first | done | omega)) only [go_sem, tb9, zz]; (repeat with_reducible refine aI ?_))
    refine ⟨?_, ?_, ?_⟩
    · simp only [D.frz, frzL, frz_mapPk, frz_cellsV]
      unfold encO opCs
      skip
      try rfl
    · refine r9.rd.obk (set_ne (by omega)) ?_
      (try simp only [List.length_append] at hXl); omega
    · exact ⟨r9.fr.next, fun j ob hj e => by have := hS.lt e; exact (set_ne (by omega)).trans (r9.fr.ob j ob hj e)⟩
  · have n1 : (o.kind == 1) = false := by simp [e3]
    have n2 : (o.kind == 2) = false := by simp [e3]
    have n3 : (o.kind == 3) = true := by simp [e3]
    have n4 : (o.kind == 4) = false := by simp [e3]
    have hXe : X = numB o.id := by
      have := hX
      unfold bytesO at this
      simp [e3] at this
      exact this.symm
    rw [hXe] at hd3 hXl
    (simp (disch := first | decide | omega | (simp only [nx]; first | done | omega)) only [go_sem, tb3, n1, n2, n3, n4]; (repeat with_reducible refine aI ?_))
    have bz : ((o.id : Int) == 0) = false := by simp; omega
    refine (number_r (mx := 18446744073709551615) (n := o.id) (s := (numB o.id).length) (by omega) r3.rd hL hi3 (by rw [hd3]; (try simp only [List.append_assoc]); exact numP_numB _ _ hid) (by unfold IsU64 at hid; omega)).wf.mono ?_
    rintro _ T4 ⟨⟨rfl, h4, hF4⟩, hT4⟩
    have r4 := r3.call h4 hF4 hT4 hkq hk
    have hn4 := hF4.next
    have tb4 := r4.box
    (simp (disch := first | decide | omega | (simp only [nx]; first | done | omega)) only [go_sem, tb4]; (repeat with_reducible refine aI ?_))
    have r5 := r4.put (cs' := .v (.int .i64 o.kind) :: .sl o1 (o.path.map encP) :: .v (.int .u64 (o.id : Int)) :: .v (.int .u64 0) :: [.v (.int .i64 0), .v (.int .i64 0), .v (.string ⟨#[]⟩), .sl .full [], .sl .full [], .sl .full []]) hS hzq hkq
    revert r5
    generalize hT5e : St.set T4 _ _ = T5
    have hn5 : T5.next = T4.next := by rw [← hT5e]; rfl
    clear hT5e
    intro r5
    have tb5 := r5.box
    (simp (disch := first | decide | omega | (simp only [nx]; first | done | omega)) only [go_sem, tb5, n1, n2, n3, n4, bz]; (repeat with_reducible refine aI ?_))
    have hd5 : L.drop (i + 1 + (pathB o.path).length + (numB o.id).length) = rest := by rw [← List.drop_drop, hd3]; (try simp only [List.append_assoc]); rw [List.drop_left]
    have hi5 : i + 1 + (pathB o.path).length + (numB o.id).length ≤ L.length := by (try simp only [List.length_append] at hXl); omega
    refine (err_r r5.rd).mono ?_
    rintro _ _ ⟨rfl, he⟩
    rw [he]
    clear he
    have zz := r5.zero
    (simp (disch := first | decide | omega | (simp only [nx]; first | done | omega)) only [go_sem, tb5, zz]; (repeat with_reducible refine aI ?_))
    refine ⟨?_, ?_, ?_⟩
    · simp only [D.frz, frzL, frz_mapPk, frz_cellsV]
      unfold encO opCs
      rw [hz2, hz3]
      try rfl
    · refine r5.rd.obk (set_ne (by omega)) ?_
      (try simp only [List.length_append] at hXl); omega
    · exact ⟨r5.fr.next, fun j ob hj e => by have := hS.lt e; exact (set_ne (by omega)).trans (r5.fr.ob j ob hj e)⟩
  · have n1 : (o.kind == 1) = false := by simp [e4]
    have n2 : (o.kind == 2) = false := by simp [e4]
    have n3 : (o.kind == 3) = false := by simp [e4]
    have n4 : (o.kind == 4) = true := by simp [e4]
    have hXe : X = numB o.id ++ numB o.after := by
      have := hX
      unfold bytesO at this
      simp [e4] at this
      exact this.symm
    rw [hXe] at hd3 hXl
    (simp (disch := first | decide | omega | (simp only [nx]; first | done | omega)) only [go_sem, tb3, n1, n2, n3, n4]; (repeat with_reducible refine aI ?_))
    have bz : ((o.id : Int) == 0) = false := by simp; omega
    refine (number_r (mx := 18446744073709551615) (n := o.id) (s := (numB o.id).length) (by omega) r3.rd hL hi3 (by rw [hd3]; (try simp only [List.append_assoc]); exact numP_numB _ _ hid) (by unfold IsU64 at hid; omega)).wf.mono ?_
    rintro _ T4 ⟨⟨rfl, h4, hF4⟩, hT4⟩
    have r4 := r3.call h4 hF4 hT4 hkq hk
    have hn4 := hF4.next
    have tb4 := r4.box
    (simp (disch := first | decide | omega | (simp only [nx]; first | done | omega)) only [go_sem, tb4]; (repeat with_reducible refine aI ?_))
    have r5 := r4.put (cs' := .v (.int .i64 o.kind) :: .sl o1 (o.path.map encP) :: .v (.int .u64 (o.id : Int)) :: .v (.int .u64 0) :: [.v (.int .i64 0), .v (.int .i64 0), .v (.string ⟨#[]⟩), .sl .full [], .sl .full [], .sl .full []]) hS hzq hkq
    revert r5
    generalize hT5e : St.set T4 _ _ = T5
    have hn5 : T5.next = T4.next := by rw [← hT5e]; rfl
    clear hT5e
    intro r5
    have tb5 := r5.box
    (simp (disch := first | decide | omega | (simp only [nx]; first | done | omega)) only [go_sem, tb5, n1, n2, n3, n4, bz]; (repeat with_reducible refine aI ?_))
    have hd5 : L.drop (i + 1 + (pathB o.path).length + (numB o.id).length) = numB o.after ++ rest := by rw [← List.drop_drop, hd3]; (try simp only [List.append_assoc]); rw [List.drop_left]
    have hi5 : i + 1 + (pathB o.path).length + (numB o.id).length ≤ L.length := by (try simp only [List.length_append] at hXl); omega
    have ba : ((o.after : Int) == (o.id : Int)) = false := by simp; omega
    refine (number_r (mx := 18446744073709551615) (n := o.after) (s := (numB o.after).length) (by omega) r5.rd hL hi5 (by rw [hd5]; (try simp only [List.append_assoc]); exact numP_numB _ _ haf) (by unfold IsU64 at haf; omega)).wf.mono ?_
    rintro _ T6 ⟨⟨rfl, h6, hF6⟩, hT6⟩
    have r6 := r5.call h6 hF6 hT6 hkq hk
    have hn6 := hF6.next
    have tb6 := r6.box
    (simp (disch := first | decide | omega | (simp only [nx]; first | done | omega)) only [go_sem, tb6]; (repeat with_reducible refine aI ?_))
    have r7 := r6.put (cs' := .v (.int .i64 o.kind) :: .sl o1 (o.path.map encP) :: .v (.int .u64 (o.id : Int)) :: .v (.int .u64 (o.after : Int)) :: [.v (.int .i64 0), .v (.int .i64 0), .v (.string ⟨#[]⟩), .sl .full [], .sl .full [], .sl .full []]) hS hzq hkq
    revert r7
    generalize hT7e : St.set T6 _ _ = T7
    have hn7 : T7.next = T6.next := by rw [← hT7e]; rfl
    clear hT7e
    intro r7
    have tb7 := r7.box
    (simp (disch := first | decide | omega | (simp only [nx]; first | done | omega)) only [go_sem, tb7, n1, n2, n3, n4, ba]; (repeat with_reducible refine aI ?_))
    have hd7 : L.drop (i + 1 + (pathB o.path).length + (numB o.id).length + (numB o.after).length) = rest := by rw [← List.drop_drop, hd5]; (try simp only [List.append_assoc]); rw [List.drop_left]
    have hi7 : i + 1 + (pathB o.path).length + (numB o.id).length + (numB o.after).length ≤ L.length := by (try simp only [List.length_append] at hXl); omega
    refine (err_r r7.rd).mono ?_
    rintro _ _ ⟨rfl, he⟩
    rw [he]
    clear he
    have zz := r7.zero
    (simp (disch := first | decide | omega | (simp only [nx]; first | done | omega)) only [go_sem, tb7, zz]; (repeat with_reducible refine aI ?_))
    refine ⟨?_, ?_, ?_⟩
    · simp only [D.frz, frzL, frz_mapPk, frz_cellsV]
      unfold encO opCs
      rw [hz3]
      try rfl
    · refine r7.rd.obk (set_ne (by omega)) ?_
      (try simp only [List.length_append] at hXl); omega
    · exact ⟨r7.fr.next, fun j ob hj e => by have := hS.lt e; exact (set_ne (by omega)).trans (r7.fr.ob j ob hj e)⟩
theorem decodeO_d (own : Own) (o : DOp) (ho : OkO o) (hr : rightO o = true) (hu : ∀ p ∈ o.path, IsU64 p.2) (h4 : (bytesO o).length ≤ 4096) : DPure Tryz.prog 26 [.sl own ((bytesO o).map bD)] (.tup [encO o, errO 0]) := by
  have hcl : (D.tup [encO o, errO 0]).closed := by
    have h1 := closed_encO o
    have h2 := errO_closed 0
    simp only [D.closed, D.all, allL] at h1 h2 ⊢
    exact ⟨h1, h2, trivial⟩
  refine dpure_of_dwp mixed Tryz.func26 rfl (fun _ _ => by kernel_rfl) (rs := [.cell 2 44, .tmp 3]) rfl (by kernel_rfl) hcl (fun S hS => ?_)
  have b1 : decide ((4096 : Int) < ((bytesO o).length : Int)) = false := by simp; omega
  (simp (disch := first | decide | omega | (simp only [nx]; first | done | omega)) only [go_sem, b1]; (repeat with_reducible refine aI ?_))
  refine (new_r (l := bytesO o) (by omega)).wf.mono ?_
  rintro _ T1 ⟨⟨k, rfl, hk1, hk2, hR, hob⟩, hT1⟩
  (simp (disch := first | decide | omega | (simp only [nx]; first | done | omega)) only [go_sem]; (repeat with_reducible refine aI ?_))
  refine (oread_r (rest := []) (i := 0) o ho hr hu hk2 hR (by omega) (by omega) (by simp)).wf.mono ?_
  rintro _ T2 ⟨⟨rfl, hR2, hF2⟩, hT2⟩
  have hn2 := hF2.next
  have hk1' : S.next + 1 ≤ k := hk1
  have z2 := hF2.box S.next _ _ (by omega) (hob _ _ (add_eq (S := S)))
  (simp (disch := first | decide | omega | (simp only [nx]; first | done | omega)) only [go_sem]; (repeat with_reducible refine aI ?_))
  refine (end_r (hR2.obk ((set_ne (by omega)).trans (add_ne (by omega))) (by omega))).mono ?_
  rintro _ T3 ⟨rfl, he⟩
  rw [he]
  clear he
  (simp (disch := first | decide | omega | (simp only [nx]; first | done | omega)) only [go_sem, z2]; (repeat with_reducible refine aI ?_))
  refine ⟨?_, ⟨by show S.next ≤ T2.next + 1; omega, fun j ob e => ?_⟩⟩
  · simp only [D.frz, frzL, frz_encO, errO, if_true]
  · have := hS.lt e
    exact (set_ne (by omega)).trans ((set_ne (by omega)).trans ((add_ne (by omega)).trans (hF2.ob j ob (by omega) (hob _ _ (add_keep hS _ j ob e)))))
end
end Go.Proofs.YtjjhjhjphhpeiaaGreatDoor

namespace Go.Proofs.YtjjhjhjphhpeiaaGreatDoor
open Go.RowKit
theorem u8ne (x y : UInt8) : ((x.toNat : Int) != (y.toNat : Int)) = !decide (x = y) := by
  by_cases h : x = y
  · subst h; simp
  · have : ¬ ((x.toNat : Int) = (y.toNat : Int)) := fun e => h (UInt8.toNat_inj.1 (by omega))
    simp [h, this, bne]
set_option maxRecDepth 200000 in
set_option maxHeartbeats 8000000 in
theorem bytesEq_d (own own2 : Own) (p q : List UInt8) (hp : p.length ≤ 1000000) (hq : q.length ≤ 1000000) : DPure Tryz.prog 27 [.sl own (p.map bD), .sl own2 (q.map bD)] (.v (.bool (decide (p = q)))) := by
  refine dpure_of_dwp mixed Tryz.func27 rfl (fun _ _ => by kernel_rfl) (rs := [.tmp 4]) rfl (by kernel_rfl) trivial (fun S hS => ?_)
  by_cases hl : p.length = q.length
  · have b0 : ((p.length : Int) != (q.length : Int)) = false := by simp [hl]
    (simp (disch := first | decide | omega | (simp only [nx]; first | done | omega)) only [go_sem, b0]; (repeat with_reducible refine aI ?_))
    (refine dloop_st (fun t => List.contains [4, 5, 11, 12, 13, 14, 15, 16, 17, 18, 19, 20, 21, 22, 23, 24, 25] t) (by kernel_rfl) ?_ (p.length) (fun i f => i ≤ p.length ∧ f 5 = .v (.int .i64 (i : Nat)) ∧ (∀ j, j < i → p[j]? = q[j]?)) ?_ ?_; (exact (by (repeat' first | assumption | refine St.WF.leave ?_ _ | refine St.WF.add ?_ _ | refine St.WF.set ?_ ?_ _ | refine St.WF.grow ?_ _ _ _ | refine St.WF.keep ?_ ?_ | (first | omega | (simp only [RowOk.lo, nx]; first | done | omega))))); (exact ⟨(by omega), (by (first | (simp (disch := first | decide | omega | (simp only [nx]; first | done | omega)) only [go_sem]; first | done | rfl) | rfl)), (fun j hj => by omega)⟩); intro i g tn hn hT hg hI; obtain ⟨le, q5, hsame⟩ := hI; have q0 := hg 0 rfl; have q1 := hg 1 rfl; simp (disch := first | decide | omega | (simp only [nx]; first | done | omega)) only [go_sem] at q0 q1; clear hg; have hn' := hn; try simp only [add_next, set_next, grow_next, leave_next, drop_next] at hn')
    by_cases hlt : i < p.length
    · have b1 : decide ((i : Int) < (p.length : Int)) = true := by simp; omega
      have w1 : IntKind.i64.wrap ((i : Int) + 1) = ((i + 1 : Nat) : Int) := IntWalk.i64_in _ ⟨by omega, by omega⟩
      have hlt2 : i < q.length := by omega
      by_cases hx : p[i] = q[i]
      · have b2 : (!decide (p[i] = q[i])) = false := by simp [hx]
        (simp (disch := first | decide | omega | (simp only [nx]; first | done | omega)) only [go_sem, q0, q1, q5, b1, w1]; (repeat with_reducible refine aI ?_))
        refine ddraw_mk 9 (by kernel_rfl) ?_
        (simp (disch := first | decide | omega | (simp only [nx]; first | done | omega)) only [go_sem, q0, q1, q5, b1, b2, w1, bD_eq, u8ne]; (repeat with_reducible refine aI ?_))
        (refine ⟨by omega, (by (repeat' first | assumption | exact St.Sub.refl _ | exact RowOk.sub (by assumption) (by assumption) | refine St.Sub.trans ?_ (RowOk.sub (by assumption) (by assumption)) | refine St.Sub.add ?_ ?_ _ | refine St.Sub.set ?_ ?_ ?_ _ | refine St.Sub.keep ?_ ?_ | refine St.WF.leave ?_ _ | refine St.WF.add ?_ _ | refine St.WF.set ?_ ?_ _ | refine St.WF.grow ?_ _ _ _ | refine St.WF.keep ?_ ?_ | (first | omega | (simp only [RowOk.lo, nx]; first | done | omega)))), ?_⟩; refine ⟨by omega, ?_, ?_⟩; all_goals (try (first | (simp (disch := first | decide | omega | (simp only [nx]; first | done | omega)) only [go_sem, w1]; first | done | rfl) | rfl)))
        intro j hj
        by_cases e : j = i
        · subst e; rw [List.getElem?_eq_getElem hlt, List.getElem?_eq_getElem hlt2, hx]
        · exact hsame j (by omega)
      · have b2 : (!decide (p[i] = q[i])) = true := by simp [hx]
        (simp (disch := first | decide | omega | (simp only [nx]; first | done | omega)) only [go_sem, q0, q1, q5, b1]; (repeat with_reducible refine aI ?_))
        refine ddraw_mk 9 (by kernel_rfl) ?_
        (simp (disch := first | decide | omega | (simp only [nx]; first | done | omega)) only [go_sem, q0, q1, q5, b1, b2, bD_eq, u8ne]; (repeat with_reducible refine aI ?_))
        refine ⟨?_, (by (repeat' first | assumption | exact St.Sub.refl _ | exact RowOk.sub (by assumption) (by assumption) | refine St.Sub.trans ?_ (RowOk.sub (by assumption) (by assumption)) | refine St.Sub.add ?_ ?_ _ | refine St.Sub.set ?_ ?_ ?_ _ | refine St.Sub.keep ?_ ?_ | refine St.WF.leave ?_ _ | refine St.WF.add ?_ _ | refine St.WF.set ?_ ?_ _ | refine St.WF.grow ?_ _ _ _ | refine St.WF.keep ?_ ?_ | (first | omega | (simp only [RowOk.lo, nx]; first | done | omega))))⟩
        rw [decide_eq_false]
        · rfl
        · intro e; subst e; exact hx rfl
    · have b1 : decide ((i : Int) < (p.length : Int)) = false := by simp; omega
      (simp (disch := first | decide | omega | (simp only [nx]; first | done | omega)) only [go_sem, q0, q1, q5, b1]; (repeat with_reducible refine aI ?_))
      refine ⟨?_, (by (repeat' first | assumption | exact St.Sub.refl _ | exact RowOk.sub (by assumption) (by assumption) | refine St.Sub.trans ?_ (RowOk.sub (by assumption) (by assumption)) | refine St.Sub.add ?_ ?_ _ | refine St.Sub.set ?_ ?_ ?_ _ | refine St.Sub.keep ?_ ?_ | refine St.WF.leave ?_ _ | refine St.WF.add ?_ _ | refine St.WF.set ?_ ?_ _ | refine St.WF.grow ?_ _ _ _ | refine St.WF.keep ?_ ?_ | (first | omega | (simp only [RowOk.lo, nx]; first | done | omega))))⟩
      rw [decide_eq_true]
      · rfl
      · refine List.ext_getElem? fun j => ?_
        by_cases hj : j < i
        · exact hsame j hj
        · rw [List.getElem?_eq_none (by omega), List.getElem?_eq_none (by omega)]
  · have b0 : ((p.length : Int) != (q.length : Int)) = true := by simp; omega
    (simp (disch := first | decide | omega | (simp only [nx]; first | done | omega)) only [go_sem, b0]; (repeat with_reducible refine aI ?_))
    refine ⟨?_, (by (repeat' first | assumption | exact St.Sub.refl _ | exact RowOk.sub (by assumption) (by assumption) | refine St.Sub.trans ?_ (RowOk.sub (by assumption) (by assumption)) | refine St.Sub.add ?_ ?_ _ | refine St.Sub.set ?_ ?_ ?_ _ | refine St.Sub.keep ?_ ?_ | refine St.WF.leave ?_ _ | refine St.WF.add ?_ _ | refine St.WF.set ?_ ?_ _ | refine St.WF.grow ?_ _ _ _ | refine St.WF.keep ?_ ?_ | (first | omega | (simp only [RowOk.lo, nx]; first | done | omega))))⟩
    rw [decide_eq_false]
    · rfl
    · intro e; subst e; exact hl rfl
end Go.Proofs.YtjjhjhjphhpeiaaGreatDoor
