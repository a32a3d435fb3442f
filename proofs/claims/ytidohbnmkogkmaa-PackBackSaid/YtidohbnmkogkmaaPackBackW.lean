/- The walk of PackBack: it returns true, and nothing that was there turns. Conditions: the fields are as the statement's reading gives them. -/
import Derived.Test.YtidohbnmkogkmaaPackBackS
import Derived.Test.YtidohbnmkogkmaaPackSoleW
namespace Go.Proofs.Ytidohbnmkogkmaa
open Go.RowKit

theorem fieldsB_split (fs : List DField) (k : Nat) (h : k < fs.length) : fieldsB fs = fieldsB (fs.take k) ++ (fieldB fs[k] ++ fieldsB (fs.drop (k + 1))) := by
  have := List.take_append_drop k fs
  rw [List.drop_eq_getElem_cons h] at this
  have h2 : fs.flatMap fieldB = (fs.take k ++ fs[k] :: fs.drop (k + 1)).flatMap fieldB := by rw [this]
  unfold fieldsB
  rw [h2, List.flatMap_append, List.flatMap_cons]

/-- What the second loop keeps. -/
def BackRel (fs : List DField) (g : Nat) (w : World) (i : Value) (wr : World) : Prop :=
  ∃ k : Nat, i = .int .i64 k ∧ k ≤ fs.length ∧ IsR wr g (fieldsB fs) (fieldsB (fs.take k)).length none ∧ Below w.heap.size w wr ∧ w.heap.size ≤ g

theorem BackRel.mk {fs : List DField} {g : Nat} {w : World} {i : Value} {wr : World} (k : Nat) (h1 : i = .int .i64 k) (h2 : k ≤ fs.length) (h3 : IsR wr g (fieldsB fs) (fieldsB (fs.take k)).length none) (h4 : Below w.heap.size w wr) (h5 : w.heap.size ≤ g) : BackRel fs g w i wr :=
  ⟨k, h1, h2, h3, h4, h5⟩
set_option maxHeartbeats 4000000 in
set_option maxRecDepth 20000 in
theorem packBack_walk (fs : List DField) (A : Option Addr) (c : Nat) (w : World) (h : IsFields w w.heap.size A fs) (hlen : fs.length ≤ 140737488351232) :
    Calls Try.prog 9 #[.slice A fs.length c] w (Gives (.bool true) w) := by
  by_cases hg : 400 < total fs
  · go_enter Try.func9, Try.ntmps9
    go_wp2_with fail
    refine (great_calls fs A c _ w h hlen).mono ?_
    rintro e w1 ⟨rfl, rfl⟩
    have hd : decide (400 < total fs) = true := by simpa using hg
    go_wp2_with fail
    refine (packAwake_calls w).mono ?_
    rintro e w1 ⟨rfl, hb⟩
    have HB := hide hb
    clear hb
    go_wp2
    go_ret
    exact ⟨ret_eq rfl, HB.out⟩
  · have hd : decide (400 < total fs) = false := by simpa using hg
    have HD := hide hd
    have hls : fs.length ≤ 400 := by unfold total at hg; omega
    have HX : Hid (∀ d ∈ fs, IsU64 d.n ∧ d.b.length ≤ 1000000) := fun d hd => ⟨(h.all d hd).1, by have := total_mem fs d hd; omega⟩
    have HG := hide hg
    have HFS : Hid ((fieldsB fs).length ≤ 1000000) := by
      have h1 := fieldsB_le fs HX.out
      have h3 := HG.out
      show (fieldsB fs).length ≤ 1000000
      omega
    clear hd hg
    go_enter Try.func9, Try.ntmps9
    go_wp2_with fail
    refine (great_calls fs A c _ w h hlen).mono ?_
    rintro e w1 ⟨rfl, rfl⟩
    rw [HD.out]
    go_wp2_with fail
    go_loopw [4] (fun i wr => ∃ (k : Nat) (F : Nat → Prop), i = .int .i64 k ∧ k ≤ fs.length ∧ IsW wr F w.heap.size (fieldsB (fs.take k)) ∧ (∀ x, F x → w.heap.size ≤ x) ∧ Below w.heap.size w wr) (fun i _ => fs.length - (intOf i).toNat)
    case atStart =>
      exact ⟨0, _, rfl, Nat.zero_le _, IsW.new w, fun _ h => h, (Below.refl _ _).alloc (Nat.le_refl _) _⟩
    case round =>
      obtain ⟨k, F, rfl, hk, hW, hF, hb⟩ := hrel
      have HW := hide hW
      have HF := hide hF
      have HB := hide hb
      clear hW hF hb
      by_cases hlt : k < fs.length
      · obtain ⟨b, o, rfl, hbl, hf⟩ := (h.below HB.out) (by omega)
        obtain ⟨A2, c2, g0, g1, g2, g3, gr, gc, gb, gx⟩ := hf k _ (List.getElem?_eq_getElem hlt)
        have GR := hide (And.intro gr gx)
        have HL1 : Hid ((fieldsB (fs.take k)).length ≤ 1000000) := by
          have h1 := fieldsB_le (fs.take k) fun d hd => HX.out d (List.mem_of_mem_take hd)
          have h2 := total_le_take fs k
          have h3 := HG.out
          show (fieldsB (fs.take k)).length ≤ 1000000
          omega
        have HL2 : Hid (fs[k].b.length ≤ 1000000) := (HX.out _ (List.getElem_mem _)).2
        clear hf gr gx h
        go_wp2_with fail
        refine (writes_calls wr F w.heap.size w.heap.size (fieldsB (fs.take k)) fs[k] A2 c2 HW.out GR.out.1 HB.out.size (fun h0 ad ha hFa => ?_) GR.out.2.1 HL1.out HL2.out).mono ?_
        · obtain ⟨b', o', e, hb', _⟩ := GR.out.1.2 h0
          rw [e] at ha
          injection ha with ha
          subst ha
          exact absurd (HF.out _ hFa) (by simp; omega)
        rintro e w1 ⟨A3, c3, rfl, hr3, hW3, hf3⟩
        have hs := fieldsB_succ fs k hlt
        rw [← hs] at hW3
        have HW3 := hide hW3
        have HF3 := hide (HB.out.trans (hf3.below HB.out.size fun x hx h1 => by have := HF.out x h1; omega))
        clear hW3 hf3 hr3 hs g0 g1 g2 g3
        go_wp2
        exact ⟨⟨k + 1, _, by go_num, by omega, HW3.out, fun x hx => by
          rcases hx with hx | hx
          · exact HF.out x hx
          · have := HB.out.size; omega, HF3.out⟩, by simp [intOf]; omega⟩
      · obtain rfl : k = fs.length := by omega
        rw [List.take_length] at HW
        go_wp2_with fail
        refine (out_calls w.heap.size (fieldsB fs) F wr HW.out (Nat.le_trans HFS.out (by omega))).mono ?_
        rintro e w1 ⟨A3, c3, rfl, hown, hb1⟩
        have HO := hide hown
        have HB1 := hide (HB.out.trans (hb1.mono HB.out.size))
        clear hown hb1
        go_wp2_with fail
        refine (newReader_calls (fieldsB fs) A3 c3 _ w1 (Reads.of_own HO.out) (Nat.le_trans HFS.out (by omega))).mono ?_
        rintro e w2 ⟨g, rfl, hg2, hR, hb2⟩
        have HR2 := hide hR
        have HB2 := hide (HB1.out.trans (hb2.mono HB1.out.size))
        have hg3 : w.heap.size ≤ g := by have := HB1.out.size; omega
        clear hR hb2
        go_wp2_with fail
        clear HB HW HF HO
        go_loopw [6] (fun i wr => BackRel fs g w i wr) (fun i _ => fs.length - (intOf i).toNat)
        case atStart => exact ⟨0, rfl, Nat.zero_le _, HR2.out, HB2.out, hg3⟩
        case round =>
          obtain ⟨k, rfl, hk, hR, hb, _⟩ := hrel
          have HR := hide hR
          have HB := hide hb
          clear hR hb
          by_cases hlt : k < fs.length
          · obtain ⟨b, o, rfl, hbl, hf⟩ := (h.below HB.out) (by omega)
            obtain ⟨A2, c2, g0, g1, g2, g3, gr, gc, gb, gx⟩ := hf k _ (List.getElem?_eq_getElem hlt)
            have GR := hide (And.intro gr gx)
            have HL2 : Hid (fs[k].b.length ≤ 1000000) := (HX.out _ (List.getElem_mem _)).2
            clear hf gr gx h
            have hspl := fieldsB_split fs k hlt
            have hsuc : (fieldsB (fs.take (k + 1))).length = (fieldsB (fs.take k)).length + (fieldB fs[k]).length := by rw [fieldsB_succ fs k hlt, List.length_append]
            have HSPL := hide hspl
            have HSUC := hide hsuc
            have HRA := hide (HR.out.below ((Below.refl _ wr).alloc (Nat.le_refl _) (.cells #[.int .i64 fs[k].kind, .int .u64 fs[k].n, .slice A2 fs[k].b.length c2, .int .i64 fs[k].most] 39)))
            have HBX := hide (Blk.new wr 39 #[.int .i64 fs[k].kind, .int .u64 fs[k].n, .slice A2 fs[k].b.length c2, .int .i64 fs[k].most])
            have hgw : g < wr.heap.size := by obtain ⟨_, _, _, hb', _⟩ := HR.out; exact hb'.lt
            have HI : Hid (IsI64 (fs[k].b.length : Int)) := by have := HL2.out; show IsI64 _; unfold IsI64; omega
            clear hspl hsuc
            by_cases k0 : fs[k].kind = 0
            · have hKK : ∀ W, IsR W g (fieldsB fs) (fieldsB (fs.take k)).length none → Calls Try.prog 32 #[.pointer (some ⟨g, 0, none⟩)] W (RdPost g (fieldsB fs) (fieldsB (fs.take (k + 1))).length none (fun v _ => v = bv (b8 fs[k].n)) W) := by
                intro W hW
                have hb := (back0 (fieldsB (fs.take k)) (fieldsB (fs.drop (k + 1))) fs[k] k0).2
                rw [← HSPL.out] at hb
                have hc := rByte_calls g (fieldsB fs) _ W none hW
                rw [hb, ← HSUC.out] at hc
                exact hc
              have HK := hide hKK
              have e0 : (fs[k].kind == 0) = true := by simp [k0]
              have ht : (((b8 fs[k].n).toNat : Int) == (fs[k].n : Int) % 256) = true := by simp [b8]
              clear hKK k0
              go_wp2_with fail
              go_region_held3 (fun w' => w'.cell? ⟨wr.heap.size, 1, none⟩ = some (.int .u64 fs[k].n)) (first | assumption | go_keep) ((go_at_call 32; refine (HK.out _ (HRA.out.drewN 1)).mono ?_; rintro e w1 ⟨v, rfl, rfl, hr1, hf1⟩; have hb1 := HBX.out.drew.fr hf1 (by omega); have d1 : w1.cell? ⟨wr.heap.size, 1, none⟩ = some (.int .u64 fs[k].n) := hb1.cell 1; have HR1 := hide hr1; have HF1 := hide hf1; clear hr1 hf1 hb1))
              go_wp2_with fail
              refine (rErr_calls g (fieldsB fs) _ _ none HR1.out).mono ?_
              rintro e w3 ⟨v3, rfl, hE3, rfl⟩
              obtain rfl : v3 = .nilIface := hE3
              have HBL : Hid (Below w.heap.size w w1) := HB.out.trans (((Below.refl w.heap.size wr).alloc HB.out.size _).drew.trans (below_of_W (by simp; exact Nat.le_succ_of_le HB.out.size) HF1.out fun x hx => by omega))
              go_wp2
              exact ⟨BackRel.mk (k + 1) (by go_num) (by omega) HR1.out HBL.out hg3, by simp [intOf]; omega⟩
            by_cases k1 : fs[k].kind = 1
            · have hKK : ∀ W, IsR W g (fieldsB fs) (fieldsB (fs.take k)).length none → Calls Try.prog 29 #[.pointer (some ⟨g, 0, none⟩), .int .u64 fs[k].n] W (RdPost g (fieldsB fs) (fieldsB (fs.take (k + 1))).length none (fun v _ => v = .int .u64 fs[k].n) W) := by
                intro W hW
                have hb := back1 (fieldsB (fs.take k)) (fieldsB (fs.drop (k + 1))) fs[k] (HX.out _ (List.getElem_mem _)).1 k1
                rw [← HSPL.out] at hb
                have hc := rNumber_calls g (fieldsB fs) _ W fs[k].n none hW
                rw [hb, ← HSUC.out] at hc
                exact hc.mono fun e w' ⟨he, h1, h2⟩ => ⟨_, he, rfl, h1, h2⟩
              have HK := hide hKK
              have e0 : (fs[k].kind == 0) = false := by simp [k0]
              have e1 : (fs[k].kind == 1) = true := by simp [k1]
              clear hKK k0 k1
              go_wp2_with fail
              go_region_held3 (fun w' => w'.cell? ⟨wr.heap.size, 1, none⟩ = some (.int .u64 fs[k].n)) (first | assumption | go_keep) ((go_at_call 29; refine (HK.out _ (HRA.out.drewN 1)).mono ?_; rintro e w1 ⟨v, rfl, None, hr1, hf1⟩; have hb1 := HBX.out.drew.fr hf1 (by omega); have d1 : w1.cell? ⟨wr.heap.size, 1, none⟩ = some (.int .u64 fs[k].n) := hb1.cell 1; have HR1 := hide hr1; have HF1 := hide hf1; clear hr1 hf1 hb1))
              go_wp2_with fail
              refine (rErr_calls g (fieldsB fs) _ _ none HR1.out).mono ?_
              rintro e w3 ⟨v3, rfl, hE3, rfl⟩
              obtain rfl : v3 = .nilIface := hE3
              have HBL : Hid (Below w.heap.size w w1) := HB.out.trans (((Below.refl w.heap.size wr).alloc HB.out.size _).drew.trans (below_of_W (by simp; exact Nat.le_succ_of_le HB.out.size) HF1.out fun x hx => by omega))
              go_wp2
              exact ⟨BackRel.mk (k + 1) (by go_num) (by omega) HR1.out HBL.out hg3, by simp [intOf]; omega⟩
            by_cases k2 : fs[k].kind = 2
            · have hKK : ∀ W, IsR W g (fieldsB fs) (fieldsB (fs.take k)).length none → Calls Try.prog 33 #[.pointer (some ⟨g, 0, none⟩)] W (RdPost g (fieldsB fs) (fieldsB (fs.take (k + 1))).length none (fun v _ => v = .int .i64 (wrap64 fs[k].n)) W) := by
                intro W hW
                have hb := back2 (fieldsB (fs.take k)) (fieldsB (fs.drop (k + 1))) fs[k] k2
                rw [← HSPL.out] at hb
                have hc := rInt_calls g (fieldsB fs) _ W none hW
                rw [hb, ← HSUC.out] at hc
                simp only [unzig_zig] at hc
                exact hc
              have HK := hide hKK
              have e0 : (fs[k].kind == 0) = false := by simp [k0]
              have e1 : (fs[k].kind == 1) = false := by simp [k1]
              have e2 : (fs[k].kind == 2) = true := by simp [k2]
              clear hKK k0 k1 k2
              go_wp2_with fail
              go_region_held3 (fun w' => w'.cell? ⟨wr.heap.size, 1, none⟩ = some (.int .u64 fs[k].n)) (first | assumption | go_keep) ((go_at_call 33; refine (HK.out _ (HRA.out.drewN 1)).mono ?_; rintro e w1 ⟨v, rfl, rfl, hr1, hf1⟩; have hb1 := HBX.out.drew.fr hf1 (by omega); have d1 : w1.cell? ⟨wr.heap.size, 1, none⟩ = some (.int .u64 fs[k].n) := hb1.cell 1; have HR1 := hide hr1; have HF1 := hide hf1; clear hr1 hf1 hb1))
              go_wp2_with fail
              refine (rErr_calls g (fieldsB fs) _ _ none HR1.out).mono ?_
              rintro e w3 ⟨v3, rfl, hE3, rfl⟩
              obtain rfl : v3 = .nilIface := hE3
              have HBL : Hid (Below w.heap.size w w1) := HB.out.trans (((Below.refl w.heap.size wr).alloc HB.out.size _).drew.trans (below_of_W (by simp; exact Nat.le_succ_of_le HB.out.size) HF1.out fun x hx => by omega))
              go_wp2
              exact ⟨BackRel.mk (k + 1) (by go_num) (by omega) HR1.out HBL.out hg3, by simp [intOf]; omega⟩
            by_cases k3 : fs[k].kind = 3
            · have hKK : ∀ W, IsR W g (fieldsB fs) (fieldsB (fs.take k)).length none → Calls Try.prog 34 #[.pointer (some ⟨g, 0, none⟩)] W (RdPost g (fieldsB fs) (fieldsB (fs.take (k + 1))).length none (fun v _ => v = .bool (decide (fs[k].n % 2 = 1))) W) := by
                intro W hW
                have hb := back3 (fieldsB (fs.take k)) (fieldsB (fs.drop (k + 1))) fs[k] k3
                rw [← HSPL.out] at hb
                have hc := rBool_calls g (fieldsB fs) _ W none hW
                rw [hb, ← HSUC.out] at hc
                exact hc
              have HK := hide hKK
              have e0 : (fs[k].kind == 0) = false := by simp [k0]
              have e1 : (fs[k].kind == 1) = false := by simp [k1]
              have e2 : (fs[k].kind == 2) = false := by simp [k2]
              have e3 : (fs[k].kind == 3) = true := by simp [k3]
              have ht : ((fs[k].n : Int) % 2 == 1) = decide (fs[k].n % 2 = 1) := by rw [Bool.eq_iff_iff]; simp; omega
              clear hKK k0 k1 k2 k3
              go_wp2_with fail
              go_region_held3 (fun w' => w'.cell? ⟨wr.heap.size, 1, none⟩ = some (.int .u64 fs[k].n)) (first | assumption | go_keep) ((go_at_call 34; refine (HK.out _ (HRA.out.drewN 1)).mono ?_; rintro e w1 ⟨v, rfl, rfl, hr1, hf1⟩; have hb1 := HBX.out.drew.fr hf1 (by omega); have d1 : w1.cell? ⟨wr.heap.size, 1, none⟩ = some (.int .u64 fs[k].n) := hb1.cell 1; have HR1 := hide hr1; have HF1 := hide hf1; clear hr1 hf1 hb1))
              go_wp2_with fail
              refine (rErr_calls g (fieldsB fs) _ _ none HR1.out).mono ?_
              rintro e w3 ⟨v3, rfl, hE3, rfl⟩
              obtain rfl : v3 = .nilIface := hE3
              have HBL : Hid (Below w.heap.size w w1) := HB.out.trans (((Below.refl w.heap.size wr).alloc HB.out.size _).drew.trans (below_of_W (by simp; exact Nat.le_succ_of_le HB.out.size) HF1.out fun x hx => by omega))
              go_wp2
              exact ⟨BackRel.mk (k + 1) (by go_num) (by omega) HR1.out HBL.out hg3, by simp [intOf]; omega⟩
            by_cases k4 : fs[k].kind = 4
            · have hKK : ∀ W, IsR W g (fieldsB fs) (fieldsB (fs.take k)).length none → Calls Try.prog 35 #[.pointer (some ⟨g, 0, none⟩), .int .i64 (fs[k].b.length : Int)] W (RdPost g (fieldsB fs) (fieldsB (fs.take (k + 1))).length none (OwnB W.heap.size fs[k].b) W) := by
                intro W hW
                have hb := back4 (fieldsB (fs.take k)) (fieldsB (fs.drop (k + 1))) fs[k] HL2.out (.inl k4)
                rw [← HSPL.out] at hb
                have hc := rBytes_calls g (fieldsB fs) _ W (fs[k].b.length : Int) HI.out none hW
                rw [hb, ← HSUC.out] at hc
                exact hc
              have HK := hide hKK
              have e0 : (fs[k].kind == 0) = false := by simp [k0]
              have e1 : (fs[k].kind == 1) = false := by simp [k1]
              have e2 : (fs[k].kind == 2) = false := by simp [k2]
              have e3 : (fs[k].kind == 3) = false := by simp [k3]
              have e4 : (fs[k].kind == 4) = true := by simp [k4]
              clear hKK k0 k1 k2 k3 k4
              have RD : Hid (∀ w1, Fr (fun k => k = g) (wr.alloc (.cells #[.int .i64 fs[k].kind, .int .u64 fs[k].n, .slice A2 fs[k].b.length c2, .int .i64 fs[k].most] 39)).drew w1 → Reads w1 w.heap.size 1 A2 fs[k].b.length (fs[k].b.map bv)) := fun w1 hf => GR.out.1.below (((Below.refl w.heap.size wr).alloc HB.out.size _).drew.trans (below_of_W (by simp; exact Nat.le_succ_of_le HB.out.size) hf fun x hx => by omega))
              go_wp2_with fail
              go_region_held3 (fun w' => w'.cell? ⟨wr.heap.size, 2, none⟩ = some (.slice A2 fs[k].b.length c2)) (first | assumption | go_keep) (first | (go_at_call 35; refine (HK.out _ (HRA.out.drewN 1)).mono ?_; rintro e w1 ⟨v, rfl, ⟨A5, c5, rfl, ho5⟩, hr1, hf1⟩; have hb1 := HBX.out.drew.fr hf1 (by omega); have d1 : w1.cell? ⟨wr.heap.size, 2, none⟩ = some (.slice A2 fs[k].b.length c2) := hb1.cell 2; have HR1 := hide hr1; have HF1 := hide hf1; clear hr1 hf1 hb1; have hrr := Reads.of_own ho5; have HRR := hide hrr; clear ho5 hrr) | (go_at_call 16; refine (refEqBytes_calls fs[k].b fs[k].b _ _ _ _ _ _ _ HRR.out (RD.out _ HF1.out) (Nat.le_trans HL2.out (by omega))).mono ?_; rintro e w2 ⟨rfl, m2, rfl⟩))
              go_wp2_with fail
              refine (rErr_calls g (fieldsB fs) _ _ none (HR1.out.drewN _)).mono ?_
              rintro e w3 ⟨v3, rfl, hE3, rfl⟩
              obtain rfl : v3 = .nilIface := hE3
              have HBL : Hid (Below w.heap.size w w1) := HB.out.trans (((Below.refl w.heap.size wr).alloc HB.out.size _).drew.trans (below_of_W (by simp; exact Nat.le_succ_of_le HB.out.size) HF1.out fun x hx => by omega))
              go_wp2
              exact ⟨BackRel.mk (k + 1) (by go_num) (by omega) (HR1.out.drewN _) (below_drewN HBL.out _) hg3, by simp [intOf]; omega⟩
            by_cases k5 : fs[k].kind = 5
            · have hKK : ∀ W, IsR W g (fieldsB fs) (fieldsB (fs.take k)).length none → Calls Try.prog 36 #[.pointer (some ⟨g, 0, none⟩), .int .i64 (fs[k].b.length : Int)] W (RdPost g (fieldsB fs) (fieldsB (fs.take (k + 1))).length none (fun v _ => v = .string ⟨fs[k].b.toArray⟩) W) := by
                intro W hW
                have hb := back4 (fieldsB (fs.take k)) (fieldsB (fs.drop (k + 1))) fs[k] HL2.out (.inr k5)
                rw [← HSPL.out] at hb
                have hc := rText_calls g (fieldsB fs) _ W (fs[k].b.length : Int) HI.out none hW
                rw [hb, ← HSUC.out] at hc
                exact hc
              have HK := hide hKK
              have e0 : (fs[k].kind == 0) = false := by simp [k0]
              have e1 : (fs[k].kind == 1) = false := by simp [k1]
              have e2 : (fs[k].kind == 2) = false := by simp [k2]
              have e3 : (fs[k].kind == 3) = false := by simp [k3]
              have e4 : (fs[k].kind == 4) = false := by simp [k4]
              have e5 : (fs[k].kind == 5) = true := by simp [k5]
              clear hKK k0 k1 k2 k3 k4 k5
              have hcv : ∀ W, Reads W w.heap.size 1 A2 fs[k].b.length (fs[k].b.map bv) → (convert 23 9 (.slice A2 fs[k].b.length c2)).run Try.prog W = .ok (.string ⟨fs[k].b.toArray⟩) W := fun W hW => run_string_of_bytes 23 9 5 Try.underlying23 Try.underlying5 Try.underlying9 hW
              have HCV := hide hcv
              have s1 := hcv (wr.alloc (.cells #[.int .i64 fs[k].kind, .int .u64 fs[k].n, .slice A2 fs[k].b.length c2, .int .i64 fs[k].most] 39)).drew (GR.out.1.below ((Below.refl w.heap.size wr).alloc HB.out.size _).drew)
              have s0 : (wr.alloc (.cells #[.int .i64 fs[k].kind, .int .u64 fs[k].n, .slice A2 fs[k].b.length c2, .int .i64 fs[k].most] 39)).drew.cell? ⟨wr.heap.size, 2, none⟩ = some (.slice A2 fs[k].b.length c2) := HBX.out.drew.cell 2
              clear hcv
              have RD : Hid (∀ w1, Fr (fun k => k = g) (wr.alloc (.cells #[.int .i64 fs[k].kind, .int .u64 fs[k].n, .slice A2 fs[k].b.length c2, .int .i64 fs[k].most] 39)).drew w1 → Reads w1 w.heap.size 1 A2 fs[k].b.length (fs[k].b.map bv)) := fun w1 hf => GR.out.1.below (((Below.refl w.heap.size wr).alloc HB.out.size _).drew.trans (below_of_W (by simp; exact Nat.le_succ_of_le HB.out.size) hf fun x hx => by omega))
              go_wp2_with fail
              go_region_held3 (fun w' => w'.cell? ⟨wr.heap.size, 2, none⟩ = some (.slice A2 fs[k].b.length c2) ∧ (convert 23 9 (.slice A2 fs[k].b.length c2)).run Try.prog w' = .ok (.string ⟨fs[k].b.toArray⟩) w') (exact ⟨by assumption, by assumption⟩) ((go_at_call 36; refine (HK.out _ (HRA.out.drewN 1)).mono ?_; rintro e w1 ⟨v, rfl, rfl, hr1, hf1⟩; have hb1 := HBX.out.drew.fr hf1 (by omega); have d1 : w1.cell? ⟨wr.heap.size, 2, none⟩ = some (.slice A2 fs[k].b.length c2) := hb1.cell 2; have HR1 := hide hr1; have HF1 := hide hf1; clear hr1 hf1 hb1; have d2 := HCV.out w1 (RD.out _ HF1.out)))
              go_wp2_with fail
              refine (rErr_calls g (fieldsB fs) _ _ none HR1.out).mono ?_
              rintro e w3 ⟨v3, rfl, hE3, rfl⟩
              obtain rfl : v3 = .nilIface := hE3
              have HBL : Hid (Below w.heap.size w w1) := HB.out.trans (((Below.refl w.heap.size wr).alloc HB.out.size _).drew.trans (below_of_W (by simp; exact Nat.le_succ_of_le HB.out.size) HF1.out fun x hx => by omega))
              go_wp2
              exact ⟨BackRel.mk (k + 1) (by go_num) (by omega) HR1.out HBL.out hg3, by simp [intOf]; omega⟩
            have hKK : ∀ W, IsR W g (fieldsB fs) (fieldsB (fs.take k)).length none → Calls Try.prog 37 #[.pointer (some ⟨g, 0, none⟩), .int .i64 (fs[k].b.length : Int)] W (RdPost g (fieldsB fs) (fieldsB (fs.take (k + 1))).length none (OwnB W.heap.size fs[k].b) W) := by
              intro W hW
              have hb := back6 (fieldsB (fs.take k)) (fieldsB (fs.drop (k + 1))) fs[k] ⟨k0, k1, k2, k3, k4, k5⟩
              rw [← HSPL.out] at hb
              have hc := rRaw_calls g (fieldsB fs) _ W (fs[k].b.length : Int) none hW
              rw [hb, ← HSUC.out] at hc
              exact hc
            have HK := hide hKK
            have e0 : (fs[k].kind == 0) = false := by simp [k0]
            have e1 : (fs[k].kind == 1) = false := by simp [k1]
            have e2 : (fs[k].kind == 2) = false := by simp [k2]
            have e3 : (fs[k].kind == 3) = false := by simp [k3]
            have e4 : (fs[k].kind == 4) = false := by simp [k4]
            have e5 : (fs[k].kind == 5) = false := by simp [k5]
            clear hKK k0 k1 k2 k3 k4 k5
            have RD : Hid (∀ w1, Fr (fun k => k = g) (wr.alloc (.cells #[.int .i64 fs[k].kind, .int .u64 fs[k].n, .slice A2 fs[k].b.length c2, .int .i64 fs[k].most] 39)).drew w1 → Reads w1 w.heap.size 1 A2 fs[k].b.length (fs[k].b.map bv)) := fun w1 hf => GR.out.1.below (((Below.refl w.heap.size wr).alloc HB.out.size _).drew.trans (below_of_W (by simp; exact Nat.le_succ_of_le HB.out.size) hf fun x hx => by omega))
            go_wp2_with fail
            go_region_held3 (fun w' => w'.cell? ⟨wr.heap.size, 2, none⟩ = some (.slice A2 fs[k].b.length c2)) (first | assumption | go_keep) (first | (go_at_call 37; refine (HK.out _ (HRA.out.drewN 1)).mono ?_; rintro e w1 ⟨v, rfl, ⟨A5, c5, rfl, ho5⟩, hr1, hf1⟩; have hb1 := HBX.out.drew.fr hf1 (by omega); have d1 : w1.cell? ⟨wr.heap.size, 2, none⟩ = some (.slice A2 fs[k].b.length c2) := hb1.cell 2; have HR1 := hide hr1; have HF1 := hide hf1; clear hr1 hf1 hb1; have hrr := Reads.of_own ho5; have HRR := hide hrr; clear ho5 hrr) | (go_at_call 16; refine (refEqBytes_calls fs[k].b fs[k].b _ _ _ _ _ _ _ HRR.out (RD.out _ HF1.out) (Nat.le_trans HL2.out (by omega))).mono ?_; rintro e w2 ⟨rfl, m2, rfl⟩))
            go_wp2_with fail
            refine (rErr_calls g (fieldsB fs) _ _ none (HR1.out.drewN _)).mono ?_
            rintro e w3 ⟨v3, rfl, hE3, rfl⟩
            obtain rfl : v3 = .nilIface := hE3
            have HBL : Hid (Below w.heap.size w w1) := HB.out.trans (((Below.refl w.heap.size wr).alloc HB.out.size _).drew.trans (below_of_W (by simp; exact Nat.le_succ_of_le HB.out.size) HF1.out fun x hx => by omega))
            go_wp2
            exact ⟨BackRel.mk (k + 1) (by go_num) (by omega) (HR1.out.drewN _) (below_drewN HBL.out _) hg3, by simp [intOf]; omega⟩
          · obtain rfl : k = fs.length := by omega
            rw [List.take_length] at HR
            go_wp2_with fail
            refine (rEnd_calls g (fieldsB fs) _ _ none HR.out).mono ?_
            rintro e w3 ⟨v, rfl, hE, hb3⟩
            have hrn : rEnd (fieldsB fs) (fieldsB fs).length none = none := by simp [rEnd]
            rw [hrn] at hE
            obtain rfl : v = .nilIface := hE
            have HB3 := hide (HB.out.trans (hb3.mono HB.out.size))
            clear hb3 hrn
            go_wp2_with fail
            refine (packAwake_calls _).mono ?_
            rintro e w7 ⟨rfl, hb7⟩
            have HB7 := hide hb7
            clear hb7
            go_wp2
            go_ret
            exact ⟨ret_eq rfl, HB3.out.trans (HB7.out.mono HB3.out.size)⟩
end Go.Proofs.Ytidohbnmkogkmaa
