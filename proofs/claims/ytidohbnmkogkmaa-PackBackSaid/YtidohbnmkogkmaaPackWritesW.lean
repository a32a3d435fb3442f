/- The walk of PackWrites: it returns true, and nothing that was there turns. Conditions: the fields are as the statement's reading gives them. -/
import Derived.Test.YtidohbnmkogkmaaPackLaw
namespace Go.Proofs.Ytidohbnmkogkmaa
open Go.RowKit

def fieldsB (fs : List DField) : List UInt8 := fs.flatMap fieldB
theorem fieldB_le (d : DField) (h : IsU64 d.n) (hb : d.b.length ≤ 1000000) : (fieldB d).length ≤ 10 + d.b.length := by
  have h1 := numB_length_le d.n (by unfold IsU64 at h; omega)
  have h2 := numB_length_le (zig (wrap64 d.n)) (by have := zig_u64 _ (wrap64_i64 d.n); unfold IsU64 at this; omega)
  have h3 := numB_length_le d.b.length (by omega)
  unfold fieldB
  repeat' split
  all_goals (try simp only [List.length_append, List.length_cons, List.length_nil])
  all_goals omega
theorem fieldsB_le (fs : List DField) : (∀ d ∈ fs, IsU64 d.n ∧ d.b.length ≤ 1000000) → (fieldsB fs).length ≤ 10 * total fs := by
  induction fs with
  | nil => intro _; simp [fieldsB]
  | cons d fs ih =>
    intro h
    have h1 := fieldB_le d (h d (by simp)).1 (h d (by simp)).2
    have h2 := ih fun x hx => h x (by simp [hx])
    simp only [fieldsB, List.flatMap_cons, List.length_append, total, List.map_cons, List.sum_cons, List.length_cons] at *
    omega
theorem fieldsB_succ (fs : List DField) (k : Nat) (h : k < fs.length) : fieldsB (fs.take (k + 1)) = fieldsB (fs.take k) ++ fieldB fs[k] := by
  unfold fieldsB; rw [List.take_succ_eq_append_getElem h, List.flatMap_append]; simp
theorem total_mem (fs : List DField) (d : DField) (h : d ∈ fs) : d.b.length ≤ total fs := by
  induction fs with
  | nil => cases h
  | cons x fs ih =>
    simp only [total, List.map_cons, List.sum_cons, List.length_cons] at *
    rcases List.mem_cons.1 h with rfl | h
    · omega
    · have := ih h; omega
theorem total_le_take (fs : List DField) (k : Nat) : total (fs.take k) ≤ total fs := by
  have := total_take_le fs k
  simp only [total, List.length_take]; omega
theorem IsFields.all {w : World} {B : Nat} {A : Option Addr} {fs : List DField} (h : IsFields w B A fs) : ∀ d ∈ fs, IsU64 d.n ∧ IsI64 d.kind ∧ IsI64 d.most := by
  intro d hd
  obtain ⟨i, hi, rfl⟩ := List.mem_iff_getElem.1 hd
  obtain ⟨b, o, _, _, hf⟩ := h (by omega)
  obtain ⟨_, _, _, _, _, _, _, _, _, hx⟩ := hf i _ (List.getElem?_eq_getElem hi)
  exact hx

set_option maxHeartbeats 1000000 in
set_option maxRecDepth 20000 in
theorem packWrites_walk (fs : List DField) (A : Option Addr) (c : Nat) (w : World) (h : IsFields w w.heap.size A fs) (hlen : fs.length ≤ 140737488351232) :
    Calls Try.prog 4 #[.slice A fs.length c] w (Gives (.bool true) w) := by
  by_cases hg : 400 < total fs
  · go_enter Try.func4, Try.ntmps4
    go_wp2_with fail
    refine (great_calls fs A c _ w h hlen).mono ?_
    rintro e w1 ⟨rfl, rfl⟩
    have hd : decide (400 < total fs) = true := by simpa using hg
    go_wp2_with fail
    refine (packAwake_calls w).mono ?_
    rintro e w1 ⟨rfl, hb⟩
    have HB := hide hb
    clear hb
    go_wp2
    go_ret
    exact ⟨ret_eq rfl, HB.out⟩
  · have hd : decide (400 < total fs) = false := by simpa using hg
    have HD := hide hd
    have hls : fs.length ≤ 400 := by unfold total at hg; omega
    have HX : Hid (∀ d ∈ fs, IsU64 d.n ∧ d.b.length ≤ 1000000) := fun d hd => ⟨(h.all d hd).1, by have := total_mem fs d hd; omega⟩
    have HG := hide hg
    clear hd hg
    obtain ⟨i5, hi5, hz5, hs5, hb5⟩ := info_parts info_u8
    go_enter Try.func4, Try.ntmps4
    go_wp2_with fail
    refine (great_calls fs A c _ w h hlen).mono ?_
    rintro e w1 ⟨rfl, rfl⟩
    rw [HD.out]
    go_wp2_with fail
    go_loopw [4, 5] (fun v i wr => ∃ (k : Nat) (A1 : Option Addr) (c1 : Nat) (F : Nat → Prop), i = .int .i64 k ∧ k ≤ fs.length ∧ v = .slice A1 (fieldsB (fs.take k)).length c1 ∧
      wr.ownsRow w.heap.size 5 1 (.slice A1 (fieldsB (fs.take k)).length c1) (fieldsB (fs.take k)).length ((fieldsB (fs.take k)).map bv) ∧ IsW wr F w.heap.size (fieldsB (fs.take k)) ∧
      (∀ x, (Value.slice A1 (fieldsB (fs.take k)).length c1).ownBlock = some x → ¬ F x) ∧ (∀ x, F x → w.heap.size ≤ x ∧ x < wr.heap.size) ∧ Below w.heap.size w wr) (fun _ i _ => fs.length - (intOf i).toNat)
    case atStart =>
      exact ⟨0, none, 0, fun x => w.heap.size ≤ x ∧ x < w.heap.size + 1, rfl, Nat.zero_le _, rfl, World.ownsRow_nil _ _ _ _, (IsW.new w).mono (fun x h1 h2 => ⟨h2, by simpa using h1⟩), fun x hx => by simp [Value.ownBlock] at hx, fun x h => ⟨h.1, by simpa using h.2⟩, (Below.refl _ _).alloc (Nat.le_refl _) _⟩
    case round =>
      obtain ⟨k, A1, c1, F, rfl, hk, rfl, hown, hW, hnf, hF, hb⟩ := hrel
      have HOWN := hide hown
      have HW := hide hW
      have HNF := hide hnf
      have HF := hide hF
      have HB := hide hb
      clear hown hW hnf hF hb
      by_cases hlt : k < fs.length
      · obtain ⟨b, o, rfl, hbl, hf⟩ := (h.below HB.out) (by omega)
        obtain ⟨A2, c2, g0, g1, g2, g3, gr, gc, gb, gx⟩ := hf k _ (List.getElem?_eq_getElem hlt)
        have GR := hide (And.intro gr gx)
        have HL1 : Hid ((fieldsB (fs.take k)).length ≤ 1000000) := by
          have h1 := fieldsB_le (fs.take k) fun d hd => HX.out d (List.mem_of_mem_take hd)
          have h2 := total_le_take fs k
          have h3 := HG.out
          show (fieldsB (fs.take k)).length ≤ 1000000
          omega
        have HL2 : Hid (fs[k].b.length ≤ 1000000) := (HX.out _ (List.getElem_mem _)).2
        clear hf gr gx h
        go_wp2_with fail
        refine (writes_calls wr F w.heap.size w.heap.size (fieldsB (fs.take k)) fs[k] A2 c2 HW.out GR.out.1 HB.out.size (fun h0 ad ha hFa => ?_) GR.out.2.1 HL1.out HL2.out).mono ?_
        · obtain ⟨b', o', e, hb', _⟩ := GR.out.1.2 h0
          rw [e] at ha
          injection ha with ha
          subst ha
          exact absurd (HF.out _ hFa).1 (by simp; omega)
        rintro e w1 ⟨A3, c3, rfl, hr3, hW3, hf3⟩
        have HO3 := hide (own_fr HOWN.out hf3 HNF.out)
        have HW3 := hide hW3
        have HF3 := hide hf3
        have hsz := hf3.size
        have hsz2 := HB.out.size
        have HL3 := HL1.out
        have HL4 := HL2.out
        have HFB := fieldB_le fs[k] GR.out.2.1 HL2.out
        clear hW3 hf3
        have ho3 := HO3.out
        go_wp2_with (at_builtin; go_must (refine wpList_append_any _ rfl _ _ 23 rfl _ 5 i5 (.int .u8 0) 1 1 Try.underlying23 hi5 hz5 hs5 hb5 rfl (by decide) _ _ _ (by rfl) ho3 _ _ _ _ _ (by rfl) hr3 (oneCell_bv _) (by unfold maxLen; omega) (by omega) (by first | omega | (rw [World.size_drew]; omega) | (simp only [World.size_alloc]; omega)) ?_); intro Aq cq wq ownq growq lieq)
        have hs := fieldsB_succ fs k hlt
        refine ⟨⟨k + 1, Aq, cq, fun x => F x ∨ (wr.heap.size ≤ x ∧ x < w1.heap.size), by go_num, by omega, ?_, ?_, ?_, ?_, ?_, ?_⟩, by simp [intOf]; omega⟩
        · rw [hs, List.length_append]
        · rw [hs, List.length_append, List.map_append]; exact ownq
        · rw [hs]
          refine (HW3.out.mono (G := fun x => (F x ∨ (wr.heap.size ≤ x ∧ x < w1.heap.size))) fun x hx h1 => ?_).fr (Fr.of_grown (F := fun x => (Value.slice A1 (fieldsB (fs.take k)).length c1).ownBlock = some x) growq (fun x hx => hx)) fun x hx => ?_
          · rcases h1 with h1 | h1
            · exact .inl h1
            · exact .inr ⟨h1, hx⟩
          · rcases hx with hx | hx
            · exact fun h1 => HNF.out x h1 hx
            · intro h1
              have := (HOWN.out.lt x h1).2
              omega
        · intro x hx h1
          rw [hs, List.length_append] at hx
          rcases lieq with h2 | h2
          · rw [h2] at hx
            rcases h1 with h1 | h1
            · exact HNF.out x hx h1
            · have := (HOWN.out.lt x hx).2; omega
          · rw [h2] at hx
            injection hx with hx
            rcases h1 with h1 | h1
            · have := (HF.out x h1).2; omega
            · omega
        · intro x hx
          have h9 := growq.size
          rcases hx with hx | hx
          · have := HF.out x hx; omega
          · omega
        · exact (HB.out.trans (HF3.out.below HB.out.size fun x hx h1 => by have := HF.out x h1; omega)).grown growq (by omega) fun x hx => (HOWN.out.lt x hx).1
      · obtain rfl : k = fs.length := by omega
        rw [List.take_length] at HOWN HW HNF
        have HFS : Hid ((fieldsB fs).length ≤ 1000000) := by
          have h1 := fieldsB_le fs HX.out
          have h3 := HG.out
          show (fieldsB fs).length ≤ 1000000
          omega
        have HTK := hide (List.take_length (l := fs))
        go_wp2_with fail
        rw [HTK.out]
        refine (out_calls w.heap.size (fieldsB fs) F wr HW.out (Nat.le_trans HFS.out (by omega))).mono ?_
        rintro e w1 ⟨A3, c3, rfl, hown, hb1⟩
        have HO := hide hown
        have HB1 := hide hb1
        clear hown hb1
        go_wp2_with fail
        refine (refEqBytes_calls (fieldsB fs) (fieldsB fs) _ _ _ _ _ _ _ (Reads.of_own HO.out) ((Reads.of_own HOWN.out).below HB1.out) (Nat.le_trans HFS.out (by omega))).mono ?_
        rintro e w2 ⟨rfl, n, rfl⟩
        have hdt : decide (fieldsB fs = fieldsB fs) = true := by simp
        rw [hdt]
        go_wp2_with fail
        refine (packAwake_calls _).mono ?_
        rintro e w3 ⟨rfl, hb3⟩
        have HB3 := hide hb3
        clear hb3
        go_wp2
        go_ret
        refine ⟨ret_eq rfl, ?_⟩
        have h1 := HB.out.trans (HB1.out.mono HB.out.size)
        exact (below_drewN h1 n).trans (HB3.out.mono (by have := h1.size; simpa using this))
end Go.Proofs.Ytidohbnmkogkmaa
