/- Texts of a proof, part 2. Conditions: none. -/
import Derived.Test.YtjjhjhjphhpeiaaCLawDC1
import Derived.Lib.OthersKept
import Derived.Lib.TrimU
import Derived.Deep.LoopGhost
set_option linter.unusedVariables false
set_option linter.unusedSimpArgs false
/- Slices of numbers: where one stands; unlike each other. Conditions: none. -/
namespace Go.Proofs.Ytjjhjhjphhpeiaa
open Go.RowKit

set_option maxHeartbeats 1000000 in
theorem uIndex_calls (l : List Nat) (x : Nat) (A : Option Addr) (c : Nat) (w : World) (hr : RF w (· < w.heap.size) 1 A l.length (l.map uv)) (hn : l.length ≤ 140737488351232) :
    Calls Try.prog 36 #[.slice A l.length c, uv x] w (fun e w' => IdxP (fun i => decide (l[i]? = some x)) l.length e ∧ w = w') := by
  have HR := hide hr
  clear hr
  go_enter Try.func36, Try.ntmps36
  go_wp2_with fail
  go_loop [8] (fun i => ∃ (k : Nat), i = .int .i64 k ∧ k ≤ l.length ∧ (∀ r, r < k → l[r]? ≠ some x)) (fun i => l.length - (intOf i).toNat)
  case atStart => exact ⟨0, rfl, Nat.zero_le _, fun r hr => by omega⟩
  case round =>
    obtain ⟨k, rfl, hk, hno⟩ := hrel
    have GN := hide hno
    clear hno
    by_cases hlt : k < l.length
    · obtain ⟨b, o, rfl, hb, hc⟩ := HR.out.at_ hlt
      have hg : l[k]? = some l[k] := List.getElem?_eq_getElem hlt
      generalize l[k] = y at *
      have HG := hide hg
      clear hg
      by_cases hx : x = y
      · subst hx
        have hxx : ((x : Int) == (x : Int)) = true := by simp
        go_wp2
        go_ret
        exact ⟨.inl ⟨k, hlt, rfl, by simp [HG.out], fun r hr => by simpa using GN.out r hr⟩, rfl⟩
      · have hxx : ((x : Int) == (y : Int)) = false := by simp; omega
        have HX := hide hx
        clear hx
        go_wp2_with fail
        exact ⟨⟨k + 1, by go_num, by omega, fun r hr => by
          by_cases e : r = k
          · rw [e, HG.out]; intro h; exact HX.out (Option.some.inj h).symm
          · exact GN.out r (by omega)⟩, by simp [intOf]; omega⟩
    · obtain rfl : k = l.length := by omega
      go_wp2
      go_ret
      exact ⟨.inr ⟨rfl, fun r hr => by simpa using GN.out r hr⟩, rfl⟩
set_option maxHeartbeats 400000 in
theorem uContains_calls (l : List Nat) (x : Nat) (A : Option Addr) (c : Nat) (w : World) (hr : RF w (· < w.heap.size) 1 A l.length (l.map uv)) (hn : l.length ≤ 140737488351232) :
    Calls Try.prog 109 #[.slice A l.length c, uv x] w (fun e w' => e = .returned (.bool (decide (x ∈ l))) ∧ w = w') := by
  have HI := hide (uIndex_calls l x A c w hr hn)
  clear hr
  go_enter Try.func109, Try.ntmps109
  go_wp2_with fail
  refine HI.out.mono ?_
  rintro e w1 ⟨hi, rfl⟩
  rcases hi with ⟨k, hk, rfl, hp, hno⟩ | ⟨rfl, hno⟩
  · have HX : Hid (decide (x ∈ l) = true) := hide (decide_eq_true (List.mem_of_getElem? (by simpa using hp)))
    clear hp hno
    go_wp2
    go_ret
    exact ⟨ret_eq (by rw [HX.out]; rfl), rfl⟩
  · have HX : Hid (decide (x ∈ l) = false) := hide (decide_eq_false fun hm => by
      obtain ⟨i, hi, e⟩ := List.getElem_of_mem hm
      have := hno i hi
      simp only [List.getElem?_eq_getElem hi, e] at this
      simp at this)
    clear hno
    go_wp2
    go_ret
    exact ⟨ret_eq (by rw [HX.out]; rfl), rfl⟩

/-- Neither 0 nor like one ahead of it; at most twelve. -/
def idOk (l : List Nat) (i : Nat) : Bool := !decide (l.getD i 0 = 0) && !decide (l.getD i 0 ∈ l.take i)
def idsB (l : List Nat) : Bool := ((List.range l.length).all (idOk l)) && decide (l.length ≤ 12)
set_option maxHeartbeats 1000000 in
theorem ids_calls (l : List Nat) (A : Option Addr) (c : Nat) (w : World) (hr : RF w (· < w.heap.size) 1 A l.length (l.map uv)) (hn : l.length ≤ 140737488351232) (hc : l.length ≤ c) :
    Calls Try.prog 118 #[.slice A l.length c] w (fun e w' => e = .returned (.bool (idsB l)) ∧ w = w') := by
  have HR := hide hr
  clear hr
  go_enter Try.func118, Try.ntmps118
  go_wp2_with fail
  go_loop [7] (fun i => ∃ (k : Nat), i = .int .i64 k ∧ k ≤ l.length ∧ (∀ r, r < k → idOk l r = true)) (fun i => l.length - (intOf i).toNat)
  case atStart => exact ⟨0, rfl, Nat.zero_le _, fun r hr => by omega⟩
  case round =>
    obtain ⟨k, rfl, hk, hno⟩ := hrel
    have GN := hide hno
    clear hno
    by_cases hlt : k < l.length
    · obtain ⟨b, o, rfl, hb, hcell⟩ := HR.out.at_ hlt
      have hg : l.getD k 0 = l[k] := by simp [List.getD, hlt]
      have HOK : Hid (idOk l k = (!decide (l[k] = 0) && !decide (l[k] ∈ l.take k))) := hide (by unfold idOk; rw [hg])
      have HRT : Hid (RF w (· < w.heap.size) 1 (some ⟨b, o, none⟩) (l.take k).length ((l.take k).map uv)) := hide (by
        have := Reads.take (k := k) HR.out (by omega)
        rw [Nat.mul_one, ← List.map_take] at this
        rw [List.length_take, Nat.min_eq_left (by omega)]
        exact this)
      have hlen : (l.take k).length = k := by simp; omega
      have HC := hide (fun x => uContains_calls (l.take k) x (some ⟨b, o, none⟩) c w HRT.out (by omega))
      rw [hlen] at HC
      clear hg hlen
      have HFL : Hid (idOk l k = false → idsB l = false) := hide fun h => by
        unfold idsB
        rw [show (List.range l.length).all (idOk l) = false from List.all_eq_false.2 ⟨k, List.mem_range.2 hlt, by rw [h]; simp⟩, Bool.false_and]
      generalize l[k] = y at *
      by_cases h0 : y = 0
      · have h00 : ((y : Int) == 0) = true := by simp [h0]
        have HX : Hid (idsB l = false) := hide (HFL.out (by rw [HOK.out, decide_eq_true h0]; rfl))
        clear h0
        go_wp2
        go_ret
        exact ⟨ret_eq (by rw [HX.out]; rfl), rfl⟩
      · have h00 : ((y : Int) == 0) = false := by simpa using h0
        rw [decide_eq_false h0, Bool.not_false, Bool.true_and] at HOK
        clear h0
        cases hx : decide (y ∈ l.take k)
        · rw [hx] at HOK
          have HX := hide hx
          clear hx
          go_wp2_with fail
          refine (HC.out y).mono ?_
          rintro e w1 ⟨rfl, rfl⟩
          rw [HX.out]
          go_wp2_with fail
          exact ⟨⟨k + 1, by go_num, by omega, fun r hr => by
            by_cases e : r = k
            · rw [e, HOK.out]; rfl
            · exact GN.out r (by omega)⟩, by simp [intOf]; omega⟩
        · rw [hx] at HOK
          have HX := hide hx
          clear hx
          go_wp2_with fail
          refine (HC.out y).mono ?_
          rintro e w1 ⟨rfl, rfl⟩
          rw [HX.out]
          go_wp2
          go_ret
          exact ⟨ret_eq (by rw [HFL.out (by rw [HOK.out]; rfl)]; rfl), rfl⟩
    · obtain rfl : k = l.length := by omega
      have HE : Hid (idsB l = decide (l.length ≤ 12)) := hide (by
        unfold idsB
        rw [show (List.range l.length).all (idOk l) = true from List.all_eq_true.2 fun i hi => GN.out i (List.mem_range.1 hi), Bool.true_and])
      go_wp2
      go_ret
      exact ⟨ret_eq (by rw [HE.out]; first | rfl | (simp; done) | (simp; omega) | (simp; rw [Bool.eq_iff_iff]; simp; omega) | (rw [Bool.eq_iff_iff]; simp; omega) | (simp; rw [Bool.eq_iff_iff]; simp)), rfl⟩
end Go.Proofs.Ytjjhjhjphhpeiaa

/- Names: value.Name, and the document's own. Conditions: none. -/
namespace Go.Proofs.Ytjjhjhjphhpeiaa
open Go.RowKit

def nameByte (c : Nat) : Bool := decide ((97 ≤ c ∧ c ≤ 122) ∨ (48 ≤ c ∧ c ≤ 57) ∨ c = 95)
def nameB (s : Str) : Bool := (s.all fun c => nameByte c.toNat) && decide (1 ≤ s.length ∧ s.length ≤ 12)

theorem nameByte_true {c : Nat} (h : (97 ≤ c ∧ c ≤ 122) ∨ (48 ≤ c ∧ c ≤ 57) ∨ c = 95) : nameByte c = true := decide_eq_true h
theorem nameByte_false {c : Nat} (h : ¬ ((97 ≤ c ∧ c ≤ 122) ∨ (48 ≤ c ∧ c ≤ 57) ∨ c = 95)) : nameByte c = false := decide_eq_false h

set_option maxHeartbeats 1000000 in
theorem nameOther_calls (R : Nat) (w : World) (hR : R ≤ 1114111) : Calls Try.prog 135 #[.int .i32 (R : Int)] w (fun e w' => e = .returned (.bool (!nameByte R)) ∧ w = w') := by
  have key : R < 48 ∨ (48 ≤ R ∧ R ≤ 57) ∨ (57 < R ∧ R < 95) ∨ (95 ≤ R ∧ R ≤ 95) ∨ (96 ≤ R ∧ R ≤ 96) ∨ (97 ≤ R ∧ R ≤ 122) ∨ 122 < R := by omega
  rcases key with h | h | h | h | h | h | h
  all_goals
    first
      | (have hT : Hid (nameByte _ = true) := hide (nameByte_true (c := R) (by omega)))
      | (have hT : Hid (nameByte _ = false) := hide (nameByte_false (c := R) (by omega)))
    first | (have hb : ((R : Int) == 95) = false := by simp; omega) | (have hb : ((R : Int) == 95) = true := by simp; omega)
    go_enter Try.func135, Try.ntmps135
    go_wp2
    go_ret
    exact ⟨ret_eq (by rw [hT.out]; first | rfl | (simp; omega)), rfl⟩

theorem get_str (s : Str) (i : Nat) (h : i < s.length) : (strB s).get! i = s[i] := by
  simp [strB, ByteArray.get!, h]
theorem decode_name (s : Str) (i : Nat) (h : i < s.length) : (nameByte (Utf8.decode (strB s) i).1 = nameByte s[i].toNat) ∧ (nameByte s[i].toNat = true → (Utf8.decode (strB s) i).2 = 1) := by
  have hg : (strB s).get! (i + 0) = s[i] := get_str s i h
  unfold Utf8.decode
  simp only [hg]
  by_cases h0 : s[i].toNat < 128
  · rw [if_pos h0]; exact ⟨rfl, fun _ => rfl⟩
  · rw [if_neg h0]
    have hn : nameByte s[i].toNat = false := nameByte_false (by omega)
    refine ⟨?_, fun h => by rw [hn] at h; cases h⟩
    rw [hn]
    split
    · split
      · exact nameByte_false (by omega)
      · exact nameByte_false (by unfold Utf8.runeError; omega)
    · split
      · split
        · rename_i hc
          simp only [Bool.and_eq_true, decide_eq_true_eq] at hc
          exact nameByte_false (by omega)
        · exact nameByte_false (by unfold Utf8.runeError; omega)
      · split
        · split
          · rename_i hc
            simp only [Bool.and_eq_true, decide_eq_true_eq] at hc
            exact nameByte_false (by omega)
          · exact nameByte_false (by unfold Utf8.runeError; omega)
        · exact nameByte_false (by unfold Utf8.runeError; omega)

/-- The first one that is no sign of a name: below 0 where there is none. -/
def OtherPost (s : Str) (w : World) (e : Ending) (w' : World) : Prop := (∃ z : Int, e = .returned (.int .i64 z) ∧ decide (z < 0) = s.all (fun c => nameByte c.toNat)) ∧ Below w.heap.size w w'
set_option maxHeartbeats 2000000 in
set_option maxRecDepth 20000 in
theorem nameIndex_calls (s : Str) (w : World) (hs : s.length ≤ maxLen) :
    Calls Try.prog 141 #[sv s, .func (.func 135) #[] #[], .bool true] w (OtherPost s w) := by
  unfold maxLen at hs
  have hKs : ∀ (x : Array Value) W, (callFunc 135 x).run Try.prog W = .ok (.enter 135 x) W := fun _ _ => by kernel_rfl
  go_enter Try.func141, Try.ntmps141
  go_wp2
  go_loopg [] s.length (fun g wx => ∃ pos : Nat, wx.heap[w.heap.size]? = some (.stringIter (strB s) pos) ∧ Below w.heap.size w wx ∧ s.length ≤ pos + g ∧ (∀ c ∈ s.take pos, nameByte c.toNat = true))
  case atStart => exact ⟨0, World.iter_heap w (strB s) 0, (Below.refl _ w).alloc (Nat.le_refl _) _, by omega, by simp⟩
  case round =>
    obtain ⟨pos, hit, hbw, hfu, hok⟩ := hrel
    have GB := hide hbw
    have GN := hide hok
    have hsz : w.heap.size < wr.heap.size := (Array.getElem?_eq_some_iff.1 hit).1
    clear hbw hok
    by_cases hp0 : pos < s.length
    · have hp : pos < (strB s).size := by rw [strB_size]; exact hp0
      obtain ⟨g, rfl⟩ : ∃ g, gk = g + 1 := ⟨gk - 1, by omega⟩
      have hnx : ∀ ty, (Instr.next (.pointer (some ⟨w.heap.size, 0, none⟩)) true ty).run Try.prog wr = _ := fun ty => Lib.run_next_any_at wr w.heap.size (strB s) pos ty hit hp
      have hr1 := Lib.rune_le (strB s) pos
      have hwd := Lib.width_pos (strB s) pos
      have hdn := decode_name s pos hp0
      obtain ⟨R, hR⟩ : ∃ R, (Utf8.decode (strB s) pos).1 = R := ⟨_, rfl⟩
      obtain ⟨K, hK⟩ : ∃ K, (Utf8.decode (strB s) pos).2 = K := ⟨_, rfl⟩
      rw [hR, hK] at hnx
      rw [hR, hK] at hdn
      rw [hR] at hr1
      rw [hK] at hwd
      have hit2 := Lib.iterAt_heap wr w.heap.size (strB s) pos (pos + K) hit
      have hbw2 := Lib.below_iterAt GB.out (k := w.heap.size) (Nat.le_refl _) (strB s) (pos + K)
      obtain ⟨W, hWd⟩ : ∃ W, wr.iterAt w.heap.size (strB s) (pos + K) = W := ⟨_, rfl⟩
      rw [hWd] at hnx hit2 hbw2
      have hWs : w.heap.size < W.heap.size := (Array.getElem?_eq_some_iff.1 hit2).1
      have cS := hide (nameOther_calls R W hr1)
      have HDN := hide hdn
      have HI2 := hide (And.intro hit2 hbw2)
      clear hdn hit hit2 hbw2 hR hK hWd
      cases hx : nameByte R with
      | true =>
        rw [hx] at cS
        have HX := hide hx
        clear hx
        go_wp2_with (go_at_call 135; refine cS.out.mono ?_; rintro e w' ⟨rfl, rfl⟩)
        go_roundg g
        case measure => omega
        case rel =>
          have h1 : nameByte s[pos].toNat = true := HDN.out.1.symm.trans HX.out
          have hK1 := HDN.out.2 h1
          subst hK1
          refine ⟨pos + 1, HI2.out.1, HI2.out.2, by omega, fun c hc => ?_⟩
          rw [List.take_succ_eq_append_getElem hp0] at hc
          rcases List.mem_append.1 hc with h | h
          · exact GN.out c h
          · rw [List.mem_singleton.1 h]; exact h1
      | false =>
        rw [hx] at cS
        have HX := hide hx
        clear hx
        go_wp2_with (go_at_call 135; refine cS.out.mono ?_; rintro e w' ⟨rfl, rfl⟩)
        go_ret
        refine ⟨⟨(pos : Int), rfl, ?_⟩, HI2.out.2⟩
        have h1 : nameByte s[pos].toNat = false := HDN.out.1.symm.trans HX.out
        rw [show (s.all fun c => nameByte c.toNat) = false from List.all_eq_false.2 ⟨s[pos], List.getElem_mem _, by rw [h1]; simp⟩]
        simp
    · have hp : ¬ pos < (strB s).size := by rw [strB_size]; exact hp0
      have hnx : ∀ ty, (Instr.next (.pointer (some ⟨w.heap.size, 0, none⟩)) true ty).run Try.prog wr = _ := fun ty => Lib.run_next_end_at wr w.heap.size (strB s) pos ty hit hp
      clear hit
      go_wp2
      go_ret
      refine ⟨⟨-1, rfl, ?_⟩, GB.out⟩
      rw [show (s.all fun c => nameByte c.toNat) = true from List.all_eq_true.2 fun c hc => GN.out c (by rw [List.take_of_length_le (by omega)]; exact hc)]
      rfl

set_option maxHeartbeats 400000 in
theorem nameIndexS_calls (s : Str) (w : World) (hs : s.length ≤ maxLen) :
    Calls Try.prog 134 #[sv s, .func (.func 135) #[] #[]] w (OtherPost s w) := by
  have HI := hide (nameIndex_calls s w hs)
  go_enter Try.func134, Try.ntmps134
  go_wp2_with fail
  refine HI.out.mono ?_
  rintro e w1 ⟨⟨z, rfl, hz⟩, hb⟩
  have HZ := hide hz
  have HB := hide hb
  clear hz hb
  go_wp2
  go_ret
  exact ⟨⟨z, rfl, HZ.out⟩, HB.out⟩

set_option maxHeartbeats 1000000 in
theorem name_calls (s : Str) (w : World) (hs : s.length ≤ maxLen) : Calls Try.prog 116 #[sv s] w (Gives (.bool (nameB s)) w) := by
  have HI := hide (nameIndexS_calls s w hs)
  go_enter Try.func116, Try.ntmps116
  go_wp2_with fail
  refine HI.out.mono ?_
  rintro e w1 ⟨⟨z, rfl, hz⟩, hb⟩
  have HB := hide hb
  have HN : Hid (nameB s = (decide (z < 0) && decide (1 ≤ s.length ∧ s.length ≤ 12))) := hide (by rw [hz]; rfl)
  clear hb hz
  unfold maxLen at hs
  by_cases h1 : s.length = 0
  · obtain rfl : s = [] := List.eq_nil_of_length_eq_zero h1
    go_wp2
    go_ret
    exact ⟨ret_eq (by rw [HN.out]; simp), HB.out⟩
  · have hne : ¬ s = [] := fun e => h1 (by rw [e]; rfl)
    have hne2 : s.isEmpty = false := by cases s; exact absurd rfl hne; rfl
    by_cases h2 : s.length ≤ 12
    · have hd : decide (1 ≤ s.length ∧ s.length ≤ 12) = true := decide_eq_true ⟨by omega, h2⟩
      rw [hd, Bool.and_true] at HN
      clear hd
      go_wp2
      go_ret
      exact ⟨ret_eq (by rw [HN.out]; rfl), HB.out⟩
    · have hd : decide (1 ≤ s.length ∧ s.length ≤ 12) = false := decide_eq_false fun h => h2 h.2
      rw [hd, Bool.and_false] at HN
      clear hd
      go_wp2
      go_ret
      exact ⟨ret_eq (by rw [HN.out]; rfl), HB.out⟩
end Go.Proofs.Ytjjhjhjphhpeiaa

/- Names: the document's own; lists of names. Conditions: none. -/
namespace Go.Proofs.Ytjjhjhjphhpeiaa
open Go.RowKit

set_option maxHeartbeats 1000000 in
theorem refName_calls (s : Str) (w : World) (hs : s.length ≤ maxLen) : Calls Try.prog 71 #[sv s] w (fun e w' => e = .returned (.bool (nameB s)) ∧ w = w') := by
  unfold maxLen at hs
  go_enter Try.func71, Try.ntmps71
  go_wp2_with fail
  go_loop [3] (fun i => ∃ (k : Nat), i = .int .i64 k ∧ k ≤ s.length ∧ ∀ c ∈ s.take k, nameByte c.toNat = true) (fun i => s.length - (intOf i).toNat)
  case atStart => exact ⟨0, rfl, Nat.zero_le _, by simp⟩
  case round =>
    obtain ⟨k, rfl, hk, hok⟩ := hrel
    have GN := hide hok
    clear hok
    by_cases hlt : k < s.length
    · have hx := UInt8.toNat_lt s[k]
      have HT : Hid (nameByte s[k].toNat = true → ∀ c ∈ s.take (k + 1), nameByte c.toNat = true) := hide fun h c hc => by
        rw [List.take_succ_eq_append_getElem hlt] at hc
        rcases List.mem_append.1 hc with h1 | h1
        · exact GN.out c h1
        · rw [List.mem_singleton.1 h1]; exact h
      have HN : Hid (nameByte s[k].toNat = false → nameB s = false) := hide fun h => by
        unfold nameB
        rw [show (s.all fun c => nameByte c.toNat) = false from List.all_eq_false.2 ⟨s[k], List.getElem_mem _, by rw [h]; simp⟩]
        rfl
      have key : s[k].toNat < 48 ∨ (48 ≤ s[k].toNat ∧ s[k].toNat ≤ 57) ∨ (57 < s[k].toNat ∧ s[k].toNat < 95) ∨ (95 ≤ s[k].toNat ∧ s[k].toNat ≤ 95) ∨ (96 ≤ s[k].toNat ∧ s[k].toNat ≤ 96) ∨ (97 ≤ s[k].toNat ∧ s[k].toNat ≤ 122) ∨ 122 < s[k].toNat := by omega
      clear GN
      rcases key with h | h | h | h | h | h | h
      all_goals
        first | (have hb : ((s[k].toNat : Int) == 95) = false := by simp; omega) | (have hb : ((s[k].toNat : Int) == 95) = true := by simp; omega)
        first
          | (have hT : Hid (nameByte s[k].toNat = true) := hide (nameByte_true (by omega)))
          | (have hT : Hid (nameByte s[k].toNat = false) := hide (nameByte_false (by omega)))
        first
          | (have d1 : decide ((97 : Int) ≤ (s[k].toNat : Int)) = true := decide_eq_true (by omega); have d2 : decide ((s[k].toNat : Int) ≤ 122) = true := decide_eq_true (by omega))
          | (have d1 : decide ((97 : Int) ≤ (s[k].toNat : Int)) = true := decide_eq_true (by omega); have d2 : decide ((s[k].toNat : Int) ≤ 122) = false := decide_eq_false (by omega))
          | (have d1 : decide ((97 : Int) ≤ (s[k].toNat : Int)) = false := decide_eq_false (by omega))
        first
          | (have d3 : decide ((48 : Int) ≤ (s[k].toNat : Int)) = true := decide_eq_true (by omega); have d4 : decide ((s[k].toNat : Int) ≤ 57) = true := decide_eq_true (by omega))
          | (have d3 : decide ((48 : Int) ≤ (s[k].toNat : Int)) = true := decide_eq_true (by omega); have d4 : decide ((s[k].toNat : Int) ≤ 57) = false := decide_eq_false (by omega))
          | (have d3 : decide ((48 : Int) ≤ (s[k].toNat : Int)) = false := decide_eq_false (by omega))
        go_wp2_with fail
        first
          | exact ⟨⟨k + 1, by go_num, by omega, HT.out hT.out⟩, by simp [intOf]; omega⟩
          | (go_ret; exact ⟨ret_eq (by rw [HN.out hT.out]; rfl), rfl⟩)
    · obtain rfl : k = s.length := by omega
      have HA : Hid ((s.all fun c => nameByte c.toNat) = true) := hide (List.all_eq_true.2 fun c hc => GN.out c (by rw [List.take_length]; exact hc))
      have HN : Hid (nameB s = decide (1 ≤ s.length ∧ s.length ≤ 12)) := hide (by unfold nameB; rw [HA.out]; rfl)
      by_cases h1 : 1 ≤ s.length
      · by_cases h2 : s.length ≤ 12
        · have hd : Hid (decide (1 ≤ s.length ∧ s.length ≤ 12) = true) := hide (decide_eq_true ⟨h1, h2⟩)
          go_wp2
          go_ret
          exact ⟨ret_eq (by rw [HN.out, hd.out]; first | rfl | (simp; omega)), rfl⟩
        · have hd : Hid (decide (1 ≤ s.length ∧ s.length ≤ 12) = false) := hide (decide_eq_false fun h => h2 h.2)
          go_wp2
          go_ret
          exact ⟨ret_eq (by rw [HN.out, hd.out]; first | rfl | (simp; omega)), rfl⟩
      · have hd : Hid (decide (1 ≤ s.length ∧ s.length ≤ 12) = false) := hide (decide_eq_false fun h => h1 h.1)
        go_wp2
        go_ret
        exact ⟨ret_eq (by rw [HN.out, hd.out]; first | rfl | (simp; omega)), rfl⟩

theorem RF.below' {w w' : World} {size n : Nat} {A : Option Addr} {xs : List Value} {B : Nat} (h : RF w (· < B) size A n xs) (hb : Below B w w') : RF w' (· < B) size A n xs := h.keep fun _ hq => hb.cell hq
theorem RF.more {w w' : World} {size n : Nat} {A : Option Addr} {xs : List Value} (h : RF w (· < w.heap.size) size A n xs) (hb : Below w.heap.size w w') : RF w' (· < w'.heap.size) size A n xs := (h.below' hb).mono fun _ hk => Nat.lt_of_lt_of_le hk hb.size

set_option maxHeartbeats 400000 in
theorem namesNot_calls (s : Str) (w : World) (hs : s.length ≤ maxLen) : Calls Try.prog 138 #[sv s] w (Gives (.bool (!nameB s)) w) := by
  have HI := hide (name_calls s w hs)
  go_enter Try.func138, Try.ntmps138
  go_wp2_with fail
  refine HI.out.mono ?_
  rintro e w1 ⟨rfl, hb⟩
  have HB := hide hb
  clear hb
  go_wp2
  go_ret
  exact ⟨rfl, HB.out⟩
def namesB (l : List Str) : Bool := decide (l.length ≤ 8) && l.all nameB
set_option maxHeartbeats 1000000 in
theorem names_calls (l : List Str) (A : Option Addr) (c : Nat) (w : World) (hr : RF w (· < w.heap.size) 1 A l.length (l.map sv)) (hz : ∀ s ∈ l, s.length ≤ maxLen) (hn : l.length ≤ 140737488351232) :
    Calls Try.prog 126 #[.slice A l.length c] w (Gives (.bool (namesB l)) w) := by
  have hK : ∀ (x : Array Value) W, (callFunc 138 x).run Try.prog W = .ok (.enter 138 x) W := fun _ _ => by kernel_rfl
  have HC := hide (strF_contains 138 hK l.length A c (fun i => sv (l.getD i [])) (fun i => !nameB (l.getD i [])) w hn
    (fun h0 => by
      obtain ⟨b, o, e, hb, hc⟩ := hr.2 h0
      exact ⟨b, o, e, hb, fun i hi => hc i _ (by simp [List.getD, hi])⟩)
    (fun i hi W hW => namesNot_calls _ W (by
      have : l.getD i [] ∈ l := by simp [List.getD, hi]
      exact hz _ this)))
  have HP : Hid ((List.range l.length).any (fun i => !nameB (l.getD i [])) = !l.all nameB) := hide (by
    rw [Bool.eq_iff_iff, List.any_eq_true]
    simp only [Bool.not_eq_true', List.all_eq_false, List.mem_range]
    constructor
    · rintro ⟨i, hi, h⟩
      exact ⟨l.getD i [], by simp [List.getD, hi], by rw [h]; simp⟩
    · rintro ⟨x, hx, h⟩
      obtain ⟨i, hi, rfl⟩ := List.getElem_of_mem hx
      exact ⟨i, hi, by simpa [List.getD, hi] using h⟩)
  rw [HP.out] at HC
  have HN : Hid (namesB l = (decide (l.length ≤ 8) && l.all nameB)) := hide rfl
  clear hr hz hK HP
  generalize l.all nameB = x at *
  by_cases h8 : l.length ≤ 8
  · have hd : decide (l.length ≤ 8) = true := decide_eq_true h8
    rw [hd, Bool.true_and] at HN
    clear hd
    go_enter Try.func126, Try.ntmps126
    go_wp2_with fail
    refine HC.out.mono ?_
    rintro e w1 ⟨rfl, hb⟩
    have HB := hide hb
    clear hb
    go_wp2
    go_ret
    exact ⟨ret_eq (by rw [HN.out]; simp), HB.out⟩
  · have hd : decide (l.length ≤ 8) = false := decide_eq_false h8
    rw [hd, Bool.false_and] at HN
    clear hd
    go_enter Try.func126, Try.ntmps126
    go_wp2
    go_ret
    exact ⟨ret_eq (by rw [HN.out]; rfl), Below.refl _ _⟩
def risingB (l : List Str) : Bool := sortedB l && unlikeB l
set_option maxHeartbeats 400000 in
theorem rising_calls (l : List Str) (A : Option Addr) (c : Nat) (w : World) (hr : RF w (· < w.heap.size) 1 A l.length (l.map sv)) (hn : l.length ≤ 140737488351232) (hc : l.length ≤ c) :
    Calls Try.prog 128 #[.slice A l.length c] w (Gives (.bool (risingB l)) w) := by
  have HS := hide (isSorted_calls l A c w hr hn)
  have HR := hide hr
  have HN : Hid (risingB l = (sortedB l && unlikeB l)) := hide rfl
  clear hr
  cases hx : sortedB l
  all_goals
    rw [hx] at HS HN
    clear hx
    go_enter Try.func128, Try.ntmps128
    go_wp2_with fail
    refine HS.out.mono ?_
    rintro e w1 ⟨rfl, hb⟩
    have HB := hide hb
    clear hb
    go_wp2_with fail
  · go_ret
    exact ⟨ret_eq (by rw [HN.out]; rfl), HB.out⟩
  · refine (unlike_calls l A c _ (HR.out.more HB.out) hn hc).mono ?_
    rintro e w2 ⟨rfl, rfl⟩
    go_wp2
    go_ret
    exact ⟨ret_eq (by rw [HN.out]; rfl), HB.out⟩
end Go.Proofs.Ytjjhjhjphhpeiaa

/- Names that rise. Conditions: none. -/
namespace Go.Proofs.Ytjjhjhjphhpeiaa
open Go.RowKit

/-- A right name, ahead of which the one before it stands. -/
def riseOk (l : List Str) (i : Nat) : Bool := nameB (l.getD i []) && (decide (i = 0) || sLt (l.getD (i - 1) []) (l.getD i []))
def riseV (l : List Str) : Bool := ((List.range l.length).all (riseOk l)) && decide (l.length ≤ 8)
set_option maxHeartbeats 1000000 in
theorem riseV_calls (l : List Str) (A : Option Addr) (c : Nat) (w : World) (hr : RF w (· < w.heap.size) 1 A l.length (l.map sv)) (hz : ∀ s ∈ l, s.length ≤ maxLen) (hn : l.length ≤ 140737488351232) :
    Calls Try.prog 117 #[.slice A l.length c] w (Gives (.bool (riseV l)) w) := by
  have HR := hide hr
  have HZ := hide hz
  clear hr hz
  go_enter Try.func117, Try.ntmps117
  go_wp2_with fail
  go_loopw [7] (fun i wr => ∃ (k : Nat), i = .int .i64 k ∧ k ≤ l.length ∧ (∀ r, r < k → riseOk l r = true) ∧ Below w.heap.size w wr) (fun i _ => l.length - (intOf i).toNat)
  case atStart => exact ⟨0, rfl, Nat.zero_le _, fun r hr => by omega, Below.refl _ _⟩
  case round =>
    obtain ⟨k, rfl, hk, hno, hw⟩ := hrel
    obtain ⟨wo, rfl⟩ : ∃ wo : World, wo = wr := ⟨_, rfl⟩
    have GN := hide hno
    have GW := hide hw
    clear hno hw
    by_cases hlt : k < l.length
    · obtain ⟨b, o, rfl, hb, hcell⟩ := HR.out.at_ hlt
      have hzy := HZ.out _ (List.getElem_mem hlt)
      obtain ⟨y, hy⟩ : ∃ y, l[k] = y := ⟨_, rfl⟩
      have hg : l.getD k [] = y := by rw [← hy]; simp [List.getD, hlt]
      rw [hy] at hzy hcell
      have c1 : wo.cell? ⟨b, o + k, none⟩ = some (sv y) := (GW.out.cell (p := ⟨b, o + k, none⟩) hb).trans hcell
      have HOK : Hid (riseOk l k = (nameB y && (decide (k = 0) || sLt (l.getD (k - 1) []) y))) := hide (by unfold riseOk; rw [hg])
      have HC := hide (name_calls y wo hzy)
      have HFL : Hid (riseOk l k = false → riseV l = false) := hide fun h => by
        unfold riseV
        rw [show (List.range l.length).all (riseOk l) = false from List.all_eq_false.2 ⟨k, List.mem_range.2 hlt, by rw [h]; simp⟩, Bool.false_and]
      clear hg hcell hy hzy
      cases hx : nameB y
      · rw [hx] at HC HOK
        clear hx
        go_wp2_with fail
        refine HC.out.mono ?_
        rintro e w1 ⟨rfl, hb1⟩
        have KW := hide (GW.out.trans (hb1.mono GW.out.size))
        clear hb1
        go_wp2
        go_ret
        exact ⟨ret_eq (by rw [HFL.out (by rw [HOK.out]; rfl)]; rfl), KW.out⟩
      · rw [hx, Bool.true_and] at HOK
        rw [hx] at HC
        clear hx
        by_cases h0 : k = 0
        · rw [decide_eq_true h0, Bool.true_or] at HOK
          have h00 : ¬ (0 : Int) < (k : Int) := by omega
          have HK0 := hide h0
          clear h0
          go_wp2_with fail
          refine HC.out.mono ?_
          rintro e w1 ⟨rfl, hb1⟩
          have KW := hide (GW.out.trans (hb1.mono GW.out.size))
          clear hb1
          go_wp2_with fail
          exact ⟨⟨k + 1, by go_num, by omega, fun r hr => by
            by_cases e : r = k
            · rw [e, HOK.out]
            · exact GN.out r (by omega), KW.out⟩, by simp [intOf]; omega⟩
        · rw [decide_eq_false h0, Bool.false_or] at HOK
          obtain ⟨j, rfl⟩ : ∃ j, k = j + 1 := ⟨k - 1, by omega⟩
          have hlj : j < l.length := by omega
          obtain ⟨b', o', he, hb', hcell'⟩ := HR.out.at_ hlj
          obtain ⟨z, hz⟩ : ∃ z, l[j] = z := ⟨_, rfl⟩
          have hgj : l.getD (j + 1 - 1) [] = z := by rw [← hz]; simp [List.getD, hlj]
          rw [hgj] at HOK
          rw [hz] at hcell'
          obtain ⟨rfl, rfl⟩ : b' = b ∧ o' = o := by simpa [eq_comm] using he
          have HP : Hid (∀ W, Below w.heap.size w W → W.cell? ⟨b', o' + j, none⟩ = some (sv z)) := hide fun W hW => (hW.cell (p := ⟨b', o' + j, none⟩) hb').trans hcell'
          have h00 : (0 : Int) < ((j + 1 : Nat) : Int) := by omega
          have hsub : (((j + 1 : Nat) : Int) - 1) = (j : Int) := by omega
          clear h0 hgj hcell' he hz
          cases hx : sLt z y
          · rw [hx] at HOK
            have hxx : (!Op.bytesLess z y) = true := by rw [show Op.bytesLess z y = false from hx]; rfl
            clear hx
            go_wp2_with fail
            refine HC.out.mono ?_
            rintro e w1 ⟨rfl, hb1⟩
            have KW := hide (GW.out.trans (hb1.mono GW.out.size))
            clear hb1
            have c2 := HP.out _ KW.out
            go_wp2
            go_ret
            exact ⟨ret_eq (by rw [HFL.out HOK.out]; rfl), KW.out⟩
          · rw [hx] at HOK
            have hxx : (!Op.bytesLess z y) = false := by rw [show Op.bytesLess z y = true from hx]; rfl
            clear hx
            go_wp2_with fail
            refine HC.out.mono ?_
            rintro e w1 ⟨rfl, hb1⟩
            have KW := hide (GW.out.trans (hb1.mono GW.out.size))
            clear hb1
            have c2 := HP.out _ KW.out
            go_wp2_with fail
            exact ⟨⟨j + 1 + 1, by go_num, by omega, fun r hr => by
              by_cases e : r = j + 1
              · rw [e, HOK.out]
              · exact GN.out r (by omega), KW.out⟩, by simp [intOf]; omega⟩
    · obtain rfl : k = l.length := by omega
      have HE : Hid (riseV l = decide (l.length ≤ 8)) := hide (by
        unfold riseV
        rw [show (List.range l.length).all (riseOk l) = true from List.all_eq_true.2 fun i hi => GN.out i (List.mem_range.1 hi), Bool.true_and])
      go_wp2
      go_ret
      exact ⟨ret_eq (by rw [HE.out]; first | rfl | (simp; done) | (simp; omega) | (simp; rw [Bool.eq_iff_iff]; simp; omega) | (rw [Bool.eq_iff_iff]; simp; omega) | (simp; rw [Bool.eq_iff_iff]; simp)), GW.out⟩
end Go.Proofs.Ytjjhjhjphhpeiaa

/- Values, walked: whether one is right by itself. Conditions: none. -/
namespace Go.Proofs.Ytjjhjhjphhpeiaa
open Go.RowKit

/-- Right by itself. -/
def plainV (v : DVal) : Bool :=
  if v.kind = 1 then (decide (v.names.length = 0) && (decide (v.ids.length = 0) && decide (v.parts.length = 0))) && (decide (v.s = []) && (decide (v.n = 0) || decide (v.n = 1)))
  else if v.kind = 2 then (decide (v.names.length = 0) && (decide (v.ids.length = 0) && decide (v.parts.length = 0))) && decide (v.s = [])
  else if v.kind = 3 then (decide (v.names.length = 0) && (decide (v.ids.length = 0) && decide (v.parts.length = 0))) && (decide (v.n = 0) && decide (v.s.length ≤ 64))
  else if v.kind = 4 then (decide (v.names.length = 0) && (decide (v.ids.length = 0) && decide (v.parts.length = 0))) && (decide (v.n = 0) && nameB v.s)
  else if v.kind = 5 then decide (v.n = 0) && (decide (v.s = []) && (decide (v.ids.length = 0) && (decide (v.parts.length = v.names.length) && riseV v.names)))
  else if v.kind = 6 then decide (v.n = 0) && (decide (v.s = []) && (decide (v.names.length = 0) && (decide (v.parts.length = v.ids.length) && idsB v.ids)))
  else false

set_option maxHeartbeats 4000000 in
set_option maxRecDepth 20000 in
theorem valPlain_calls (s : DVal) (cs : List Value) (w : World) (hs : IsVal w (· < w.heap.size) s cs) :
    Calls Try.prog 95 #[.agg cs.toArray] w (Gives (.bool (plainV s)) w) := by
  obtain ⟨hk1, hki⟩ := hs.kind_
  obtain ⟨hn1, hni⟩ := hs.n_
  obtain ⟨hs1, hsl⟩ := hs.s_
  obtain ⟨Aw, cw, hw1, hwr, hwz, hwc, hwm⟩ := hs.names_
  obtain ⟨Ai, ci, hi1, hir, hiz, hic, him⟩ := hs.ids_
  obtain ⟨Ap, cp, C, hp1, hpc, hpm, hP, hA⟩ := hs.partsF
  have HW0 := hide ((Below.refl w.heap.size w).alloc (Nat.le_refl _) (.cells cs.toArray 28))
  have HCN := hide (fun (W : World) => name_calls s.s W hsl)
  have HCR := hide (fun (W : World) (hW : Below w.heap.size w W) => riseV_calls s.names Aw cw W (hwr.more hW) hwz (by omega))
  have HCU := hide (fun (W : World) (hW : Below w.heap.size w W) => ids_calls s.ids Ai ci W (hir.more hW) (by omega) hic)
  have HSP : Hid (plainV s = _) := hide (by unfold plainV; exact rfl)
  clear hs hwr hwz hir hiz hP hA hki hni
  generalize plainV s = res at *
  generalize nameB s.s = bn at *
  generalize riseV s.names = br at *
  generalize idsB s.ids = bu at *
  generalize s.names.length = nn at *
  generalize s.ids.length = ni at *
  generalize s.parts.length = np at *
  generalize s.kind = kd at *
  generalize s.n = num at *
  generalize s.s = x at *
  go_enter Try.func95, Try.ntmps95
  go_upto_region 1 with fail
  go_cut [3] (fun v wx => v = .bool (decide (nn = 0) && (decide (ni = 0) && decide (np = 0))) ∧ wx = w.alloc (.cells cs.toArray 28))
  case first =>
    by_cases h1 : nn = 0
    · have e1 : ((nn : Int) == 0) = true := by simp [h1]
      have g1 := hide (decide_eq_true h1)
      clear h1
      by_cases h2 : ni = 0
      · have e2 : ((ni : Int) == 0) = true := by simp [h2]
        have g2 := hide (decide_eq_true h2)
        clear h2
        by_cases h3 : np = 0
        · have e3 : ((np : Int) == 0) = true := by simp [h3]
          have g3 := hide (decide_eq_true h3)
          clear h3
          go_wp2_with fail
          go_meet
          exact ⟨by rw [g1.out, g2.out, g3.out]; rfl, rfl⟩
        · have e3 : ((np : Int) == 0) = false := by simpa using h3
          have g3 := hide (decide_eq_false h3)
          clear h3
          go_wp2_with fail
          go_meet
          exact ⟨by rw [g1.out, g2.out, g3.out]; rfl, rfl⟩
      · have e2 : ((ni : Int) == 0) = false := by simpa using h2
        have g2 := hide (decide_eq_false h2)
        clear h2
        go_wp2_with fail
        go_meet
        exact ⟨by rw [g1.out, g2.out]; rfl, rfl⟩
    · have e1 : ((nn : Int) == 0) = false := by simpa using h1
      have g1 := hide (decide_eq_false h1)
      clear h1
      go_wp2_with fail
      go_meet
      exact ⟨by rw [g1.out]; rfl, rfl⟩
  case rest =>
    obtain ⟨rfl, rfl⟩ := hcut
    have key : kd = 1 ∨ kd = 2 ∨ kd = 3 ∨ kd = 4 ∨ kd = 5 ∨ kd = 6 ∨ (kd ≠ 1 ∧ kd ≠ 2 ∧ kd ≠ 3 ∧ kd ≠ 4 ∧ kd ≠ 5 ∧ kd ≠ 6) := by omega
    rcases key with rfl | rfl | rfl | rfl | rfl | rfl | ⟨n1, n2, n3, n4, n5, n6⟩
    case inr.inr.inr.inr.inr.inr =>
      have e1 : (kd == 1) = false := by simpa using n1
      have e2 : (kd == 2) = false := by simpa using n2
      have e3 : (kd == 3) = false := by simpa using n3
      have e4 : (kd == 4) = false := by simpa using n4
      have e5 : (kd == 5) = false := by simpa using n5
      have e6 : (kd == 6) = false := by simpa using n6
      have HR : Hid (res = false) := hide (by rw [HSP.out]; simp [n1, n2, n3, n4, n5, n6])
      clear n1 n2 n3 n4 n5 n6 HSP
      go_wp2
      go_ret
      exact ⟨ret_eq (by rw [HR.out]; rfl), HW0.out⟩
    case inl =>
      have HR : Hid (res = ((decide (nn = 0) && (decide (ni = 0) && decide (np = 0))) && (decide (x = []) && (decide (num = 0) || decide (num = 1))))) := hide (by rw [HSP.out]; simp)
      clear HSP
      generalize (decide (nn = 0) && (decide (ni = 0) && decide (np = 0))) = eB at *
      cases eB
      case false =>
        go_wp2
        go_ret
        exact ⟨ret_eq (by rw [HR.out]; rfl), HW0.out⟩
      rw [Bool.true_and] at HR
      by_cases hsE : x = []
      case neg =>
        have fsE : (x == []) = false := by simpa using hsE
        rw [decide_eq_false hsE] at HR
        clear hsE
        go_wp2
        go_ret
        exact ⟨ret_eq (by rw [HR.out]; rfl), HW0.out⟩
      have fsE : (x == []) = true := by simp [hsE]
      rw [decide_eq_true hsE, Bool.true_and] at HR
      clear hsE
      by_cases hn0 : num = 0
      · have fn0 : (num == 0) = true := by simp [hn0]
        rw [decide_eq_true hn0] at HR
        clear hn0
        go_wp2
        go_ret
        exact ⟨ret_eq (by rw [HR.out]; rfl), HW0.out⟩
      · have fn0 : (num == 0) = false := by simpa using hn0
        rw [decide_eq_false hn0] at HR
        clear hn0
        by_cases hn1 : num = 1
        · have fn1 : (num == 1) = true := by simp [hn1]
          rw [decide_eq_true hn1] at HR
          clear hn1
          go_wp2
          go_ret
          exact ⟨ret_eq (by rw [HR.out]; rfl), HW0.out⟩
        · have fn1 : (num == 1) = false := by simpa using hn1
          rw [decide_eq_false hn1] at HR
          clear hn1
          go_wp2
          go_ret
          exact ⟨ret_eq (by rw [HR.out]; rfl), HW0.out⟩
    case inr.inl =>
      have HR : Hid (res = ((decide (nn = 0) && (decide (ni = 0) && decide (np = 0))) && (decide (x = [])))) := hide (by rw [HSP.out]; simp)
      clear HSP
      generalize (decide (nn = 0) && (decide (ni = 0) && decide (np = 0))) = eB at *
      cases eB
      case false =>
        go_wp2
        go_ret
        exact ⟨ret_eq (by rw [HR.out]; rfl), HW0.out⟩
      rw [Bool.true_and] at HR
      by_cases hsE : x = []
      · have fsE : (x == []) = true := by simp [hsE]
        rw [decide_eq_true hsE] at HR
        clear hsE
        go_wp2
        go_ret
        exact ⟨ret_eq (by rw [HR.out]; rfl), HW0.out⟩
      · have fsE : (x == []) = false := by simpa using hsE
        rw [decide_eq_false hsE] at HR
        clear hsE
        go_wp2
        go_ret
        exact ⟨ret_eq (by rw [HR.out]; rfl), HW0.out⟩
    case inr.inr.inl =>
      have HR : Hid (res = ((decide (nn = 0) && (decide (ni = 0) && decide (np = 0))) && (decide (num = 0) && decide (x.length ≤ 64)))) := hide (by rw [HSP.out]; simp)
      clear HSP
      generalize (decide (nn = 0) && (decide (ni = 0) && decide (np = 0))) = eB at *
      cases eB
      case false =>
        go_wp2
        go_ret
        exact ⟨ret_eq (by rw [HR.out]; rfl), HW0.out⟩
      rw [Bool.true_and] at HR
      by_cases hn0 : num = 0
      case neg =>
        have fn0 : (num == 0) = false := by simpa using hn0
        rw [decide_eq_false hn0] at HR
        clear hn0
        go_wp2
        go_ret
        exact ⟨ret_eq (by rw [HR.out]; rfl), HW0.out⟩
      have fn0 : (num == 0) = true := by simp [hn0]
      rw [decide_eq_true hn0, Bool.true_and] at HR
      clear hn0
      by_cases hl64 : x.length ≤ 64
      · have fl64 : (x.length : Int) ≤ 64 := by omega
        rw [decide_eq_true hl64] at HR
        clear hl64
        go_wp2
        go_ret
        exact ⟨ret_eq (by rw [HR.out]; rfl), HW0.out⟩
      · have fl64 : ¬ (x.length : Int) ≤ 64 := by omega
        rw [decide_eq_false hl64] at HR
        clear hl64
        go_wp2
        go_ret
        exact ⟨ret_eq (by rw [HR.out]; rfl), HW0.out⟩
    case inr.inr.inr.inl =>
      have HR : Hid (res = ((decide (nn = 0) && (decide (ni = 0) && decide (np = 0))) && (decide (num = 0) && bn))) := hide (by rw [HSP.out]; simp)
      clear HSP
      generalize (decide (nn = 0) && (decide (ni = 0) && decide (np = 0))) = eB at *
      cases eB
      case false =>
        go_wp2
        go_ret
        exact ⟨ret_eq (by rw [HR.out]; rfl), HW0.out⟩
      rw [Bool.true_and] at HR
      by_cases hn0 : num = 0
      case neg =>
        have fn0 : (num == 0) = false := by simpa using hn0
        rw [decide_eq_false hn0] at HR
        clear hn0
        go_wp2
        go_ret
        exact ⟨ret_eq (by rw [HR.out]; rfl), HW0.out⟩
      have fn0 : (num == 0) = true := by simp [hn0]
      rw [decide_eq_true hn0, Bool.true_and] at HR
      clear hn0
      go_wp2_with fail
      refine (HCN.out _).mono ?_
      rintro e w1 ⟨rfl, hb1⟩
      have HB1 := hide (HW0.out.trans (hb1.mono HW0.out.size))
      clear hb1
      go_wp2
      go_ret
      exact ⟨ret_eq (by rw [HR.out] <;> rfl), HB1.out⟩
    case inr.inr.inr.inr.inl =>
      have HR : Hid (res = (decide (num = 0) && (decide (x = []) && (decide (ni = 0) && (decide (np = nn) && br))))) := hide (by rw [HSP.out]; simp)
      clear HSP
      generalize (decide (nn = 0) && (decide (ni = 0) && decide (np = 0))) = eB at *
      by_cases hn0 : num = 0
      case neg =>
        have fn0 : (num == 0) = false := by simpa using hn0
        rw [decide_eq_false hn0] at HR
        clear hn0
        go_wp2
        go_ret
        exact ⟨ret_eq (by rw [HR.out]; rfl), HW0.out⟩
      have fn0 : (num == 0) = true := by simp [hn0]
      rw [decide_eq_true hn0, Bool.true_and] at HR
      clear hn0
      by_cases hsE : x = []
      case neg =>
        have fsE : (x == []) = false := by simpa using hsE
        rw [decide_eq_false hsE] at HR
        clear hsE
        go_wp2
        go_ret
        exact ⟨ret_eq (by rw [HR.out]; rfl), HW0.out⟩
      have fsE : (x == []) = true := by simp [hsE]
      rw [decide_eq_true hsE, Bool.true_and] at HR
      clear hsE
      by_cases hiE : ni = 0
      case neg =>
        have fiE : ((ni : Int) == 0) = false := by simpa using hiE
        rw [decide_eq_false hiE] at HR
        clear hiE
        go_wp2
        go_ret
        exact ⟨ret_eq (by rw [HR.out]; rfl), HW0.out⟩
      have fiE : ((ni : Int) == 0) = true := by simp [hiE]
      rw [decide_eq_true hiE, Bool.true_and] at HR
      clear hiE
      by_cases hpn : np = nn
      case neg =>
        have fpn : ((np : Int) == (nn : Int)) = false := by simp; omega
        rw [decide_eq_false hpn] at HR
        clear hpn
        go_wp2
        go_ret
        exact ⟨ret_eq (by rw [HR.out]; rfl), HW0.out⟩
      have fpn : ((np : Int) == (nn : Int)) = true := by simp [hpn]
      rw [decide_eq_true hpn, Bool.true_and] at HR
      clear hpn
      go_wp2_with fail
      refine (HCR.out _ HW0.out).mono ?_
      rintro e w1 ⟨rfl, hb1⟩
      have HB1 := hide (HW0.out.trans (hb1.mono HW0.out.size))
      clear hb1
      go_wp2
      go_ret
      exact ⟨ret_eq (by rw [HR.out] <;> rfl), HB1.out⟩
    case inr.inr.inr.inr.inr.inl =>
      have HR : Hid (res = (decide (num = 0) && (decide (x = []) && (decide (nn = 0) && (decide (np = ni) && bu))))) := hide (by rw [HSP.out]; simp)
      clear HSP
      generalize (decide (nn = 0) && (decide (ni = 0) && decide (np = 0))) = eB at *
      by_cases hn0 : num = 0
      case neg =>
        have fn0 : (num == 0) = false := by simpa using hn0
        rw [decide_eq_false hn0] at HR
        clear hn0
        go_wp2
        go_ret
        exact ⟨ret_eq (by rw [HR.out]; rfl), HW0.out⟩
      have fn0 : (num == 0) = true := by simp [hn0]
      rw [decide_eq_true hn0, Bool.true_and] at HR
      clear hn0
      by_cases hsE : x = []
      case neg =>
        have fsE : (x == []) = false := by simpa using hsE
        rw [decide_eq_false hsE] at HR
        clear hsE
        go_wp2
        go_ret
        exact ⟨ret_eq (by rw [HR.out]; rfl), HW0.out⟩
      have fsE : (x == []) = true := by simp [hsE]
      rw [decide_eq_true hsE, Bool.true_and] at HR
      clear hsE
      by_cases hnE : nn = 0
      case neg =>
        have fnE : ((nn : Int) == 0) = false := by simpa using hnE
        rw [decide_eq_false hnE] at HR
        clear hnE
        go_wp2
        go_ret
        exact ⟨ret_eq (by rw [HR.out]; rfl), HW0.out⟩
      have fnE : ((nn : Int) == 0) = true := by simp [hnE]
      rw [decide_eq_true hnE, Bool.true_and] at HR
      clear hnE
      by_cases hpi : np = ni
      case neg =>
        have fpi : ((np : Int) == (ni : Int)) = false := by simp; omega
        rw [decide_eq_false hpi] at HR
        clear hpi
        go_wp2
        go_ret
        exact ⟨ret_eq (by rw [HR.out]; rfl), HW0.out⟩
      have fpi : ((np : Int) == (ni : Int)) = true := by simp [hpi]
      rw [decide_eq_true hpi, Bool.true_and] at HR
      clear hpi
      go_wp2_with fail
      refine (HCU.out _ HW0.out).mono ?_
      rintro e w1 ⟨rfl, rfl⟩
      go_wp2
      go_ret
      exact ⟨ret_eq (by rw [HR.out] <;> rfl), HW0.out⟩
end Go.Proofs.Ytjjhjhjphhpeiaa

/- Schemas, walked: depths. Conditions: none. -/
namespace Go.Proofs.Ytjjhjhjphhpeiaa
open Go.RowKit

set_option maxHeartbeats 1000000 in
set_option maxRecDepth 20000 in
theorem refSchDepth_calls (k : Nat) : ∀ (s : DSch) (cs : List Value) (w : World), s.depth ≤ k → k ≤ 1000000 → IsSch w (· < w.heap.size) s cs →
    Calls Try.prog 73 #[.agg cs.toArray] w (Gives (.int .i64 s.depth) w) := by
  induction k with
  | zero => intro s cs w h; have := s.depth_pos; omega
  | succ k ih =>
    intro s cs w hk hkk hs
    obtain ⟨Ap, cp, hc, hcp, hmp, hA⟩ := hs.parts_
    have HI := hide ih
    have HA := hide hA
    have HS := hide hs
    have HD := hide s.depth_eq
    have hdp := s.depth_eq
    have HB0 := hide (Blk.new w 47 cs.toArray)
    have HW0 := hide ((Below.refl w.heap.size w).alloc (Nat.le_refl _) (.cells cs.toArray 47))
    have HP := hide (fun p (h : p ∈ s.parts) => DSch.depth_part h)
    clear ih hA hs
    go_enter Try.func73, Try.ntmps73
    go_wp2_with fail
    go_loopw [3, 4] (fun nv iv wr => ∃ (i : Nat), iv = .int .i64 i ∧ i ≤ s.parts.length ∧ nv = .int .i64 ((DSch.depths (s.parts.take i) : Nat) + 1 : Int) ∧ Blk wr w.heap.size 47 cs.toArray ∧ Below w.heap.size w wr) (fun _ iv _ => s.parts.length - (intOf iv).toNat)
    case atStart => exact ⟨0, rfl, Nat.zero_le _, rfl, HB0.out, HW0.out⟩
    case round =>
      obtain ⟨i, rfl, hi, rfl, hblk, hw⟩ := hrel
      obtain ⟨wo, rfl⟩ : ∃ wo : World, wo = wr := ⟨_, rfl⟩
      have GW := hide hw
      have GB := hide hblk
      clear hw hblk HB0 HW0
      have hle := DSch.depths_le s.parts i
      have cf : wo.cell? ⟨w.heap.size, 2, none⟩ = cs[2]? := by have := GB.out.cell 2; simpa using this
      rw [hc] at cf
      by_cases hlt : i < s.parts.length
      · obtain ⟨b, o, rfl, hb, hC⟩ := HA.out (by omega)
        obtain ⟨C, hl3, hr, hpi⟩ := hC i _ (List.getElem?_eq_getElem hlt)
        have HRW : Hid (wo.rangeAt b (o + i * 3) C) := hide fun q v hv => (GW.out.cell (p := ⟨b, o + i * 3 + q, none⟩) hb).trans (hr q v hv)
        have HL3 := hide hl3
        have HPI := hide hpi
        have HT := hide (DSch.depths_take s.parts i hlt)
        have hpd := HP.out _ (List.getElem_mem hlt)
        clear hC hl3 hr hpi
        generalize s.parts[i] = p at *
        generalize DSch.depths (s.parts.take i) = m at *
        go_wp2_with (first
          | (refine wpList_load_mid rfl 47 _ rfl b (o + i * 3) rfl C _ HRW.out rfl rfl (by rw [HL3.out]; kernel_rfl) ?_)
          | fail)
        refine (HI.out p C _ (by omega) (by omega) (HPI.out.more GW.out)).mono ?_
        rintro e w1 ⟨rfl, hb1⟩
        have KB := hide (GB.out.below hb1 GB.out.lt)
        have KW := hide (GW.out.trans (hb1.mono GW.out.size))
        clear hb1
        by_cases hgt : m < p.depth
        · go_wp2_with fail
          exact ⟨⟨i + 1, by go_num, by omega, by rw [HT.out, Nat.max_eq_right (by omega)], KB.out, KW.out⟩, by simp [intOf]; omega⟩
        · go_wp2_with fail
          exact ⟨⟨i + 1, by go_num, by omega, by rw [HT.out, Nat.max_eq_left (by omega)], KB.out, KW.out⟩, by simp [intOf]; omega⟩
      · have HE : Hid (((DSch.depths (s.parts.take i) : Nat) : Int) + 1 = (s.depth : Int)) := hide (by rw [List.take_of_length_le (by omega), HD.out]; rfl)
        generalize DSch.depths (s.parts.take i) = m at *
        go_wp2
        go_ret
        exact ⟨ret_eq (by rw [← HE.out]; rfl), GW.out⟩

end Go.Proofs.Ytjjhjhjphhpeiaa

/- Schemas, walked: whether two are the same. Conditions: none. -/
namespace Go.Proofs.Ytjjhjhjphhpeiaa
open Go.RowKit
instance : Inhabited DSch := ⟨.mk 0 [] []⟩
theorem schEq_split (a b : DSch) : eqB a b = (decide (a.kind = b.kind) && (decide (a.words = b.words) && eqB a.parts b.parts)) := by
  rw [Bool.eq_iff_iff]
  simp only [Bool.and_eq_true, decide_eq_true_eq, eqB_iff]
  exact DSch.ext_iff' a b

end Go.Proofs.Ytjjhjhjphhpeiaa

/- Schemas, walked: whether one is right. Conditions: none. -/
namespace Go.Proofs.Ytjjhjhjphhpeiaa
open Go.RowKit

set_option maxHeartbeats 1000000 in
set_option maxRecDepth 20000 in
theorem schG_index (K : Nat) (cap0 : Value) (hK : ∀ (x : Array Value) W, (callFunc K x).run Try.prog W = .ok (.enter K x) W) (n : Nat) (A : Option Addr) (c : Nat) (V : Nat → Value) (p : Nat → Bool) (w : World) (hn : n ≤ 140737488351232)
    (hA : 0 < n → ∃ b o, A = some ⟨b, o, none⟩ ∧ b < w.heap.size ∧ ∀ i, i < n → ∃ cs : List Value, V i = .agg cs.toArray ∧ cs.length = 3 ∧ w.rangeAt b (o + i * 3) cs)
    (hcall : ∀ i, i < n → ∀ W, Below w.heap.size w W → Calls Try.prog K #[V i, cap0] W (Gives (.bool (p i)) W)) :
    Calls Try.prog 129 #[.slice A n c, .func (.func K) #[] #[cap0]] w (IdxPost p n w) := by
  have HA := hide hA
  have HC := hide hcall
  clear hA hcall
  go_enter Try.func129, Try.ntmps129
  go_wp2_with fail
  go_loopw [8] (fun i wr => ∃ (k : Nat), i = .int .i64 k ∧ k ≤ n ∧ (∀ r, r < k → p r = false) ∧ Below w.heap.size w wr) (fun i _ => n - (intOf i).toNat)
  case atStart => exact ⟨0, rfl, Nat.zero_le _, fun r hr => by omega, Below.refl _ _⟩
  case round =>
    obtain ⟨k, rfl, hk, hno, hw⟩ := hrel
    obtain ⟨wo, rfl⟩ : ∃ wo : World, wo = wr := ⟨_, rfl⟩
    have GW := hide hw
    have GN := hide hno
    clear hw hno
    by_cases hlt : k < n
    · obtain ⟨b, o, rfl, hb, hV⟩ := HA.out (by omega)
      have hcall' := HC.out k hlt
      obtain ⟨cs, hv, hc3, hr⟩ := hV k hlt
      have HRW : Hid (wo.rangeAt b (o + k * 3) cs) := hide fun q v hv => (GW.out.cell (p := ⟨b, o + k * 3 + q, none⟩) hb).trans (hr q v hv)
      have HC3 := hide hc3
      clear hr hc3
      cases hx : p k
      all_goals
        have HX := hide hx
        rw [hx] at hcall'
        clear hx hV
        rw [hv] at hcall'

        have HCL := hide hcall'
        clear hcall'
        go_wp2_with (first | (refine wpList_load_mid rfl 47 _ rfl b (o + k * 3) rfl cs _ HRW.out rfl rfl (by rw [HC3.out]; kernel_rfl) ?_) | fail)
        refine (HCL.out _ GW.out).mono ?_
        rintro e w1 ⟨rfl, hb1⟩
        have KW := hide (GW.out.trans (hb1.mono GW.out.size))
        clear hb1
      · go_wp2_with fail
        exact ⟨⟨k + 1, by go_num, by omega, fun r hr => by
          by_cases e : r = k
          · rw [e]; exact HX.out
          · exact GN.out r (by omega), KW.out⟩, by simp [intOf]; omega⟩
      · go_wp2
        go_ret
        exact ⟨.inl ⟨k, hlt, rfl, HX.out, GN.out⟩, KW.out⟩
    · obtain rfl : k = n := by omega
      go_wp2
      go_ret
      exact ⟨.inr ⟨rfl, GN.out⟩, GW.out⟩

set_option maxHeartbeats 400000 in
theorem schG_contains (K : Nat) (cap0 : Value) (hK : ∀ (x : Array Value) W, (callFunc K x).run Try.prog W = .ok (.enter K x) W) (n : Nat) (A : Option Addr) (c : Nat) (V : Nat → Value) (p : Nat → Bool) (w : World) (hn : n ≤ 140737488351232)
    (hA : 0 < n → ∃ b o, A = some ⟨b, o, none⟩ ∧ b < w.heap.size ∧ ∀ i, i < n → ∃ cs : List Value, V i = .agg cs.toArray ∧ cs.length = 3 ∧ w.rangeAt b (o + i * 3) cs)
    (hcall : ∀ i, i < n → ∀ W, Below w.heap.size w W → Calls Try.prog K #[V i, cap0] W (Gives (.bool (p i)) W)) :
    Calls Try.prog 107 #[.slice A n c, .func (.func K) #[] #[cap0]] w (Gives (.bool ((List.range n).any p)) w) := by
  have HI := hide (schG_index K cap0 hK n A c V p w hn hA hcall)
  clear hA hcall hK
  go_enter Try.func107, Try.ntmps107
  go_wp2_with fail
  refine HI.out.mono ?_
  rintro e w1 ⟨hi, hb⟩
  have HB := hide hb
  clear hb
  rcases hi with ⟨k, hk, rfl, hp, hno⟩ | ⟨rfl, hno⟩
  · have hx : (List.range n).any p = true := List.any_eq_true.2 ⟨k, List.mem_range.2 hk, hp⟩
    have HX := hide hx
    clear hx hp hno
    go_wp2
    go_ret
    exact ⟨ret_eq (by rw [HX.out]; rfl), HB.out⟩
  · have hx : (List.range n).any p = false := List.any_eq_false.2 fun r hr => by simp [hno r (List.mem_range.1 hr)]
    have HX := hide hx
    clear hx hno
    go_wp2
    go_ret
    exact ⟨ret_eq (by rw [HX.out]; rfl), HB.out⟩


/-- Right by itself. -/
def plainS (s : DSch) : Bool :=
  if s.kind = 1 ∨ s.kind = 2 ∨ s.kind = 3 then decide (s.words.length = 0) && decide (s.parts.length = 0)
  else if s.kind = 4 then decide (0 < s.words.length) && (namesB s.words && (unlikeB s.words && decide (s.parts.length = 0)))
  else if s.kind = 5 then namesB s.words && (risingB s.words && decide (s.parts.length = s.words.length))
  else if s.kind = 6 then decide (s.words.length = 0) && decide (s.parts.length = 1)
  else false
def rightS : Nat → DSch → Bool
  | 0, _ => false
  | k + 1, s => plainS s && s.parts.all (rightS k)

set_option maxHeartbeats 2000000 in
set_option maxRecDepth 20000 in
theorem schPlain_calls (s : DSch) (cs : List Value) (w : World) (hs : IsSch w (· < w.heap.size) s cs) :
    Calls Try.prog 106 #[.agg cs.toArray] w (Gives (.bool (plainS s)) w) := by
  obtain ⟨hk1, hki⟩ := hs.kind_
  obtain ⟨Aw, cw, hw1, hwr, hwz, hwc, hwm⟩ := hs.words_
  obtain ⟨Ap, cp, C, hp1, hpc, hpm, hP, hA⟩ := hs.partsF
  have HW0 := hide ((Below.refl w.heap.size w).alloc (Nat.le_refl _) (.cells cs.toArray 47))
  have HX := hide (Blk.new w 47 cs.toArray)
  have HCN := hide (fun (W : World) (hW : Below w.heap.size w W) => names_calls s.words Aw cw W (hwr.more hW) hwz (by omega))
  have HCU := hide (fun (W : World) (hW : Below w.heap.size w W) => unlike_calls s.words Aw cw W (hwr.more hW) (by omega) hwc)
  have HCR := hide (fun (W : World) (hW : Below w.heap.size w W) => rising_calls s.words Aw cw W (hwr.more hW) (by omega) hwc)
  have HSP : Hid (plainS s = _) := hide (by unfold plainS; exact rfl)
  have hkb := i64_wf hki
  clear hs hwr hwz hP hA hki
  generalize plainS s = res at *
  generalize namesB s.words = bn at *
  generalize unlikeB s.words = bu at *
  generalize risingB s.words = br at *
  generalize s.words.length = nw at *
  generalize s.parts.length = np at *
  generalize s.kind = kd at *
  have key : kd = 1 ∨ kd = 2 ∨ kd = 3 ∨ kd = 4 ∨ kd = 5 ∨ kd = 6 ∨ (kd ≠ 1 ∧ kd ≠ 2 ∧ kd ≠ 3 ∧ kd ≠ 4 ∧ kd ≠ 5 ∧ kd ≠ 6) := by omega
  rcases key with rfl | rfl | rfl | rfl | rfl | rfl | ⟨n1, n2, n3, n4, n5, n6⟩
  case inr.inr.inr.inr.inr.inr =>
    have e1 : (kd == 1) = false := by simpa using n1
    have e2 : (kd == 2) = false := by simpa using n2
    have e3 : (kd == 3) = false := by simpa using n3
    have e4 : (kd == 4) = false := by simpa using n4
    have e5 : (kd == 5) = false := by simpa using n5
    have e6 : (kd == 6) = false := by simpa using n6
    have HR : Hid (res = false) := hide (by rw [HSP.out]; simp [n1, n2, n3, n4, n5, n6])
    clear n1 n2 n3 n4 n5 n6 HSP
    go_enter Try.func106, Try.ntmps106
    go_wp2
    go_ret
    exact ⟨ret_eq (by rw [HR.out]; rfl), HW0.out⟩
  case inr.inr.inr.inl =>
    have HR : Hid (res = (decide (0 < nw) && (bn && (bu && decide (np = 0))))) := hide (by rw [HSP.out]; simp)
    clear HSP
    by_cases h0 : 0 < nw
    · rw [decide_eq_true h0, Bool.true_and] at HR
      have h0' : decide ((0 : Int) < (nw : Int)) = true := by simp; omega
      cases bn
      all_goals
        go_enter Try.func106, Try.ntmps106
        go_wp2_with fail
        refine (HCN.out _ HW0.out).mono ?_
        rintro e w1 ⟨rfl, hb1⟩
        have HB1 := hide (HW0.out.trans (hb1.mono HW0.out.size))
        have HX1 := hide (HX.out.below hb1 HX.out.lt)
        clear hb1
      · go_wp2
        go_ret
        exact ⟨ret_eq (by rw [HR.out]; rfl), HB1.out⟩
      · rw [Bool.true_and] at HR
        have c1 : w1.cell? ⟨w.heap.size, 1, none⟩ = some (.slice Aw nw cw) := by rw [HX1.out.cell]; simpa using hw1
        have c2 : w1.cell? ⟨w.heap.size, 2, none⟩ = some (.slice Ap np cp) := by rw [HX1.out.cell]; simpa using hp1
        cases bu
        all_goals
          go_wp2_with fail
          refine (HCU.out _ HB1.out).mono ?_
          rintro e w2 ⟨rfl, rfl⟩
          go_wp2
          go_ret
          exact ⟨ret_eq (by rw [HR.out]; first | rfl | (simp; done) | (simp; omega) | (simp; rw [Bool.eq_iff_iff]; simp; omega) | (rw [Bool.eq_iff_iff]; simp; omega) | (simp; rw [Bool.eq_iff_iff]; simp)), HB1.out⟩
    · rw [decide_eq_false h0, Bool.false_and] at HR
      have h0' : decide ((0 : Int) < (nw : Int)) = false := by simp; omega
      go_enter Try.func106, Try.ntmps106
      go_wp2
      go_ret
      exact ⟨ret_eq (by rw [HR.out]; rfl), HW0.out⟩
  case inr.inr.inr.inr.inl =>
    have HR : Hid (res = (bn && (br && decide (np = nw)))) := hide (by rw [HSP.out]; simp)
    clear HSP
    cases bn
    all_goals
      go_enter Try.func106, Try.ntmps106
      go_wp2_with fail
      refine (HCN.out _ HW0.out).mono ?_
      rintro e w1 ⟨rfl, hb1⟩
      have HB1 := hide (HW0.out.trans (hb1.mono HW0.out.size))
      have HX1 := hide (HX.out.below hb1 HX.out.lt)
      clear hb1
    · go_wp2
      go_ret
      exact ⟨ret_eq (by rw [HR.out]; rfl), HB1.out⟩
    · rw [Bool.true_and] at HR
      have c1 : w1.cell? ⟨w.heap.size, 1, none⟩ = some (.slice Aw nw cw) := by rw [HX1.out.cell]; simpa using hw1
      cases br
      all_goals
        go_wp2_with fail
        refine (HCR.out _ HB1.out).mono ?_
        rintro e w2 ⟨rfl, hb2⟩
        have HB2 := hide (HB1.out.trans (hb2.mono HB1.out.size))
        have HX2 := hide (HX1.out.below hb2 HX1.out.lt)
        clear hb2
        have d1 : w2.cell? ⟨w.heap.size, 1, none⟩ = some (.slice Aw nw cw) := by rw [HX2.out.cell]; simpa using hw1
        have d2 : w2.cell? ⟨w.heap.size, 2, none⟩ = some (.slice Ap np cp) := by rw [HX2.out.cell]; simpa using hp1
        go_wp2
        go_ret
        exact ⟨ret_eq (by rw [HR.out]; first | rfl | (simp; done) | (simp; omega) | (simp; rw [Bool.eq_iff_iff]; simp; omega) | (rw [Bool.eq_iff_iff]; simp; omega) | (simp; rw [Bool.eq_iff_iff]; simp)), HB2.out⟩
  case inr.inr.inr.inr.inr.inl =>
    have HR : Hid (res = (decide (nw = 0) && decide (np = 1))) := hide (by rw [HSP.out]; simp)
    clear HSP
    by_cases h0 : nw = 0
    · have h0' : ((nw : Int) == 0) = true := by simp [h0]
      rw [decide_eq_true h0, Bool.true_and] at HR
      clear h0
      go_enter Try.func106, Try.ntmps106
      go_wp2
      go_ret
      exact ⟨ret_eq (by rw [HR.out]; first | rfl | (simp; done) | (simp; omega) | (simp; rw [Bool.eq_iff_iff]; simp; omega) | (rw [Bool.eq_iff_iff]; simp; omega) | (simp; rw [Bool.eq_iff_iff]; simp)), HW0.out⟩
    · have h0' : ((nw : Int) == 0) = false := by simpa using h0
      rw [decide_eq_false h0, Bool.false_and] at HR
      clear h0
      go_enter Try.func106, Try.ntmps106
      go_wp2
      go_ret
      exact ⟨ret_eq (by rw [HR.out]; first | rfl | (simp; done) | (simp; omega) | (simp; rw [Bool.eq_iff_iff]; simp; omega) | (rw [Bool.eq_iff_iff]; simp; omega) | (simp; rw [Bool.eq_iff_iff]; simp)), HW0.out⟩
  all_goals
    have HR : Hid (res = (decide (nw = 0) && decide (np = 0))) := hide (by rw [HSP.out]; simp)
    clear HSP
    by_cases h0 : nw = 0
    · have h0' : ((nw : Int) == 0) = true := by simp [h0]
      rw [decide_eq_true h0, Bool.true_and] at HR
      clear h0
      go_enter Try.func106, Try.ntmps106
      go_wp2
      go_ret
      exact ⟨ret_eq (by rw [HR.out]; first | rfl | (simp; done) | (simp; omega) | (simp; rw [Bool.eq_iff_iff]; simp; omega) | (rw [Bool.eq_iff_iff]; simp; omega) | (simp; rw [Bool.eq_iff_iff]; simp)), HW0.out⟩
    · have h0' : ((nw : Int) == 0) = false := by simpa using h0
      rw [decide_eq_false h0, Bool.false_and] at HR
      clear h0
      go_enter Try.func106, Try.ntmps106
      go_wp2
      go_ret
      exact ⟨ret_eq (by rw [HR.out]; first | rfl | (simp; done) | (simp; omega) | (simp; rw [Bool.eq_iff_iff]; simp; omega) | (rw [Bool.eq_iff_iff]; simp; omega) | (simp; rw [Bool.eq_iff_iff]; simp)), HW0.out⟩
end Go.Proofs.Ytjjhjhjphhpeiaa

/- Schemas, walked: whether one is right, with its parts. Conditions: none. -/
namespace Go.Proofs.Ytjjhjhjphhpeiaa
open Go.RowKit

/-- The load of a whole block by a guarded operation that is wanted. -/
theorem wpList_load_blkG {P : Program} {ops : Array Oper} {rest : List Oper} {o : Oper} {a : Act} {w : World} {Q : Exit → Act → World → Prop} (hw : Region.wanted o (yielded ops a.tmps) = true)
    (ty : TypeId) (x : Operand) (ho : o.op = .load ty x) (g : Nat) (hx : a.eval x = .pointer (some ⟨g, 0, none⟩)) (t : TypeId) (cs : List Value) (hb : Blk w g t cs.toArray) (d : TypeDesc)
    (hu : P.underlying ty = some d) (hd : d.isRow = true) (hi : (P.info? ty).map (·.size) = some cs.length) (h : wpList P ops Q rest (a.put o.dst (.agg cs.toArray)) w) : wpList P ops Q (o :: rest) a w :=
  wpList_step fun K hK => by
    simp only [hw, if_true]
    exact wp_load_mid ty x ho g 0 hx cs d (fun j v hv => by rw [Nat.zero_add, hb.cell]; simpa using hv) hu hd hi (hK _ _ h)

theorem all_getD (l : List DSch) (f : DSch → Bool) : ((List.range l.length).any fun i => !f (l.getD i default)) = !l.all f := by
  rw [Bool.eq_iff_iff, List.any_eq_true]
  simp only [Bool.not_eq_true', List.all_eq_false, List.mem_range]
  constructor
  · rintro ⟨i, hi, h⟩
    exact ⟨l.getD i default, by simp [List.getD, hi], by rw [h]; simp⟩
  · rintro ⟨x, hx, h⟩
    obtain ⟨i, hi, rfl⟩ := List.getElem_of_mem hx
    exact ⟨i, hi, by simpa [List.getD, hi] using h⟩

set_option maxHeartbeats 2000000 in
set_option maxRecDepth 20000 in
theorem schRight_calls (k : Nat) : ∀ (s : DSch) (cs : List Value) (w : World), k ≤ 1000 → IsSch w (· < w.heap.size) s cs →
    Calls Try.prog 81 #[.agg cs.toArray, .int .i64 k] w (Gives (.bool (rightS k s)) w) := by
  induction k with
  | zero =>
    intro s cs w hk hs
    go_enter Try.func81, Try.ntmps81
    go_wp2
    go_ret
    exact ⟨ret_eq rfl, ((Below.refl _ _).alloc (Nat.le_refl _) _).alloc (by simp) _⟩
  | succ k ih =>
    intro s cs w hk hs
    obtain ⟨Ap, cp, C, hp1, hpc, hpm, hP, hA⟩ := hs.partsF
    have HW0 := hide (((Below.refl w.heap.size w).alloc (Nat.le_refl _) (.cells cs.toArray 47)).alloc (by simp) (.cells #[.int .i64 ((k : Int) + 1)] 3))
    have HX := hide ((Blk.new w 47 cs.toArray).alloc (.cells #[.int .i64 ((k : Int) + 1)] 3))
    have HY := hide (Blk.new2 w (.cells cs.toArray 47) 3 #[.int .i64 ((k : Int) + 1)])
    have HL := hide (show (Try.prog.info? 47).map (·.size) = some cs.length by rw [hs.length]; kernel_rfl)
    have HCP := hide (fun (W : World) (hW : Below w.heap.size w W) => schPlain_calls s cs W (hs.more hW))
    have HK1 : ∀ (W : World) (p : DSch) (D : List Value) (g : Nat), IsSch W (· < W.heap.size) p D → Blk W g 3 #[.int .i64 ((k : Int) + 1)] → Calls Try.prog 108 #[.agg D.toArray, .pointer (some ⟨g, 0, none⟩)] W (Gives (.bool (!rightS k p)) W) := by
      intro W p D g hp hg
      have hgl := hg.lt
      have B0 := (Below.refl W.heap.size W).alloc (Nat.le_refl _) (.cells D.toArray 47)
      have c0 : (W.alloc (.cells D.toArray 47)).cell? ⟨g, 0, none⟩ = some (.int .i64 ((k : Int) + 1)) := (hg.alloc _).cell 0
      have HI := hide (ih p D _ (by omega) (hp.more B0))
      have HB := hide (Blk.new W 47 D.toArray)
      have HB0 := hide B0
      have HL := hide (show (Try.prog.info? 47).map (·.size) = some D.toArray.size by rw [List.size_toArray, hp.length]; kernel_rfl)
      clear hp hg B0 ih hs hP hA
      go_enter Try.func108, Try.ntmps108
      go_wp2_with (first | (refine wpList_load_blk rfl 47 _ rfl _ rfl _ _ HB.out _ rfl rfl HL.out ?_) | fail)
      refine HI.out.mono ?_
      rintro e w1 ⟨rfl, hb1⟩
      have HB1 := hide (HB0.out.trans (hb1.mono HB0.out.size))
      clear hb1
      go_wp2
      go_ret
      exact ⟨ret_eq rfl, HB1.out⟩
    have HCC : Hid (∀ (W : World) (hW : Below w.heap.size w W) (hg : Blk W (w.heap.size + 1) 3 #[.int .i64 ((k : Int) + 1)]), Calls Try.prog 107 #[.slice Ap s.parts.length cp, .func (.func 108) #[] #[.pointer (some ⟨w.heap.size + 1, 0, none⟩)]] W (Gives (.bool (!s.parts.all (rightS k))) W)) := hide fun W hW hg => by
      have := schG_contains 108 (.pointer (some ⟨w.heap.size + 1, 0, none⟩)) (fun _ _ => by kernel_rfl) s.parts.length Ap cp (fun i => .agg (C i).toArray) (fun i => !rightS k (s.parts.getD i default)) W (by omega)
        (fun h0 => by
          obtain ⟨x, o, e, hx, hc⟩ := hA h0
          exact ⟨x, o, e, Nat.lt_of_lt_of_le hx hW.size, fun i hi => ⟨C i, rfl, (hc i hi).1, fun q v hv => (hW.cell (p := ⟨x, o + i * 3 + q, none⟩) hx).trans ((hc i hi).2 q v hv)⟩⟩)
        (fun i hi W2 hW2 => by
          have e1 : s.parts.getD i default = s.parts[i] := by simp [List.getD, hi]
          rw [e1]
          exact HK1 W2 _ _ _ ((hP i _ (List.getElem?_eq_getElem hi)).more (hW.trans (hW2.mono hW.size))) (hg.below hW2 hg.lt))
      rwa [all_getD] at this
    have HSP : Hid (rightS (k + 1) s = (plainS s && s.parts.all (rightS k))) := hide rfl
    clear ih hs hP hA HK1
    cases hpl : plainS s
    all_goals
      rw [hpl] at HCP HSP
      clear hpl
      go_enter Try.func81, Try.ntmps81
      go_wp2_with (first | (refine wpList_load_blkG (by rfl) 47 _ rfl _ rfl _ cs HX.out _ rfl rfl HL.out ?_) | fail)
      refine (HCP.out _ HW0.out).mono ?_
      rintro e w1 ⟨rfl, hb1⟩
      have HB1 := hide (HW0.out.trans (hb1.mono HW0.out.size))
      have HX1 := hide (HX.out.below hb1 HX.out.lt)
      have HY1 := hide (HY.out.below hb1 HY.out.lt)
      clear hb1
    · go_wp2
      go_ret
      exact ⟨ret_eq (by rw [HSP.out]; rfl), HB1.out⟩
    · rw [Bool.true_and] at HSP
      have c2 : w1.cell? ⟨w.heap.size, 2, none⟩ = some (.slice Ap s.parts.length cp) := by rw [HX1.out.cell]; simpa using hp1
      go_wp2_with fail
      refine (HCC.out _ HB1.out HY1.out).mono ?_
      rintro e w2 ⟨rfl, hb2⟩
      have HB2 := hide (HB1.out.trans (hb2.mono HB1.out.size))
      clear hb2
      generalize s.parts.all (rightS k) = x at *
      go_wp2
      go_ret
      exact ⟨ret_eq (by rw [HSP.out]; first | rfl | (simp; done) | (simp; omega) | (simp; rw [Bool.eq_iff_iff]; simp; omega) | (rw [Bool.eq_iff_iff]; simp; omega) | (simp; rw [Bool.eq_iff_iff]; simp)), HB2.out⟩

set_option maxHeartbeats 400000 in
set_option maxRecDepth 20000 in
theorem schRightP_calls (s : DSch) (cs : List Value) (w : World) (hs : IsSch w (· < w.heap.size) s cs) :
    Calls Try.prog 53 #[.agg cs.toArray] w (Gives (.bool (rightS 5 s)) w) := by
  have HW0 := hide ((Below.refl w.heap.size w).alloc (Nat.le_refl _) (.cells cs.toArray 47))
  have HX := hide (Blk.new w 47 cs.toArray)
  have HL := hide (show (Try.prog.info? 47).map (·.size) = some cs.toArray.size by rw [List.size_toArray, hs.length]; kernel_rfl)
  have HC := hide (schRight_calls 5 s cs _ (by omega) (hs.more HW0.out))
  clear hs
  go_enter Try.func53, Try.ntmps53
  go_wp2_with (first | (refine wpList_load_blk rfl 47 _ rfl _ rfl _ _ HX.out _ rfl rfl HL.out ?_) | fail)
  refine HC.out.mono ?_
  rintro e w1 ⟨rfl, hb1⟩
  have HB1 := hide (HW0.out.trans (hb1.mono HW0.out.size))
  clear hb1
  go_wp2
  go_ret
  exact ⟨ret_eq rfl, HB1.out⟩

def scalarS (k : Int) : Bool := decide (1 ≤ k ∧ k ≤ 4)
end Go.Proofs.Ytjjhjhjphhpeiaa

/- Values, walked: whether one is right, with its parts. Conditions: none. -/
namespace Go.Proofs.Ytjjhjhjphhpeiaa
open Go.RowKit

set_option maxHeartbeats 1000000 in
set_option maxRecDepth 20000 in
theorem valG_index (K : Nat) (cap0 : Value) (hK : ∀ (x : Array Value) W, (callFunc K x).run Try.prog W = .ok (.enter K x) W) (n : Nat) (A : Option Addr) (c : Nat) (V : Nat → Value) (p : Nat → Bool) (w : World) (hn : n ≤ 140737488351232)
    (hA : 0 < n → ∃ b o, A = some ⟨b, o, none⟩ ∧ b < w.heap.size ∧ ∀ i, i < n → ∃ cs : List Value, V i = .agg cs.toArray ∧ cs.length = 6 ∧ w.rangeAt b (o + i * 6) cs)
    (hcall : ∀ i, i < n → ∀ W, Below w.heap.size w W → Calls Try.prog K #[V i, cap0] W (Gives (.bool (p i)) W)) :
    Calls Try.prog 119 #[.slice A n c, .func (.func K) #[] #[cap0]] w (IdxPost p n w) := by
  have HA := hide hA
  have HC := hide hcall
  clear hA hcall
  go_enter Try.func119, Try.ntmps119
  go_wp2_with fail
  go_loopw [8] (fun i wr => ∃ (k : Nat), i = .int .i64 k ∧ k ≤ n ∧ (∀ r, r < k → p r = false) ∧ Below w.heap.size w wr) (fun i _ => n - (intOf i).toNat)
  case atStart => exact ⟨0, rfl, Nat.zero_le _, fun r hr => by omega, Below.refl _ _⟩
  case round =>
    obtain ⟨k, rfl, hk, hno, hw⟩ := hrel
    obtain ⟨wo, rfl⟩ : ∃ wo : World, wo = wr := ⟨_, rfl⟩
    have GW := hide hw
    have GN := hide hno
    clear hw hno
    by_cases hlt : k < n
    · obtain ⟨b, o, rfl, hb, hV⟩ := HA.out (by omega)
      have hcall' := HC.out k hlt
      obtain ⟨cs, hv, hc3, hr⟩ := hV k hlt
      have HRW : Hid (wo.rangeAt b (o + k * 6) cs) := hide fun q v hv => (GW.out.cell (p := ⟨b, o + k * 6 + q, none⟩) hb).trans (hr q v hv)
      have HC3 := hide hc3
      clear hr hc3
      cases hx : p k
      all_goals
        have HX := hide hx
        rw [hx] at hcall'
        clear hx hV
        rw [hv] at hcall'

        have HCL := hide hcall'
        clear hcall'
        go_wp2_with (first | (refine wpList_load_mid rfl 28 _ rfl b (o + k * 6) rfl cs _ HRW.out rfl rfl (by rw [HC3.out]; kernel_rfl) ?_) | fail)
        refine (HCL.out _ GW.out).mono ?_
        rintro e w1 ⟨rfl, hb1⟩
        have KW := hide (GW.out.trans (hb1.mono GW.out.size))
        clear hb1
      · go_wp2_with fail
        exact ⟨⟨k + 1, by go_num, by omega, fun r hr => by
          by_cases e : r = k
          · rw [e]; exact HX.out
          · exact GN.out r (by omega), KW.out⟩, by simp [intOf]; omega⟩
      · go_wp2
        go_ret
        exact ⟨.inl ⟨k, hlt, rfl, HX.out, GN.out⟩, KW.out⟩
    · obtain rfl : k = n := by omega
      go_wp2
      go_ret
      exact ⟨.inr ⟨rfl, GN.out⟩, GW.out⟩

set_option maxHeartbeats 400000 in
theorem valG_contains (K : Nat) (cap0 : Value) (hK : ∀ (x : Array Value) W, (callFunc K x).run Try.prog W = .ok (.enter K x) W) (n : Nat) (A : Option Addr) (c : Nat) (V : Nat → Value) (p : Nat → Bool) (w : World) (hn : n ≤ 140737488351232)
    (hA : 0 < n → ∃ b o, A = some ⟨b, o, none⟩ ∧ b < w.heap.size ∧ ∀ i, i < n → ∃ cs : List Value, V i = .agg cs.toArray ∧ cs.length = 6 ∧ w.rangeAt b (o + i * 6) cs)
    (hcall : ∀ i, i < n → ∀ W, Below w.heap.size w W → Calls Try.prog K #[V i, cap0] W (Gives (.bool (p i)) W)) :
    Calls Try.prog 96 #[.slice A n c, .func (.func K) #[] #[cap0]] w (Gives (.bool ((List.range n).any p)) w) := by
  have HI := hide (valG_index K cap0 hK n A c V p w hn hA hcall)
  clear hA hcall hK
  go_enter Try.func96, Try.ntmps96
  go_wp2_with fail
  refine HI.out.mono ?_
  rintro e w1 ⟨hi, hb⟩
  have HB := hide hb
  clear hb
  rcases hi with ⟨k, hk, rfl, hp, hno⟩ | ⟨rfl, hno⟩
  · have hx : (List.range n).any p = true := List.any_eq_true.2 ⟨k, List.mem_range.2 hk, hp⟩
    have HX := hide hx
    clear hx hp hno
    go_wp2
    go_ret
    exact ⟨ret_eq (by rw [HX.out]; rfl), HB.out⟩
  · have hx : (List.range n).any p = false := List.any_eq_false.2 fun r hr => by simp [hno r (List.mem_range.1 hr)]
    have HX := hide hx
    clear hx hno
    go_wp2
    go_ret
    exact ⟨ret_eq (by rw [HX.out]; rfl), HB.out⟩


instance : Inhabited DVal := ⟨.mk 0 0 [] [] [] []⟩
def rightV : Nat → DVal → Bool
  | 0, _ => false
  | k + 1, s => plainV s && s.parts.all (rightV k)

theorem all_getDV (l : List DVal) (f : DVal → Bool) : ((List.range l.length).any fun i => !f (l.getD i default)) = !l.all f := by
  rw [Bool.eq_iff_iff, List.any_eq_true]
  simp only [Bool.not_eq_true', List.all_eq_false, List.mem_range]
  constructor
  · rintro ⟨i, hi, h⟩
    exact ⟨l.getD i default, by simp [List.getD, hi], by rw [h]; simp⟩
  · rintro ⟨x, hx, h⟩
    obtain ⟨i, hi, rfl⟩ := List.getElem_of_mem hx
    exact ⟨i, hi, by simpa [List.getD, hi] using h⟩

set_option maxHeartbeats 2000000 in
set_option maxRecDepth 20000 in
theorem valRight_calls (k : Nat) : ∀ (s : DVal) (cs : List Value) (w : World), k ≤ 1000 → IsVal w (· < w.heap.size) s cs →
    Calls Try.prog 64 #[.agg cs.toArray, .int .i64 k] w (Gives (.bool (rightV k s)) w) := by
  induction k with
  | zero =>
    intro s cs w hk hs
    go_enter Try.func64, Try.ntmps64
    go_wp2
    go_ret
    exact ⟨ret_eq rfl, ((Below.refl _ _).alloc (Nat.le_refl _) _).alloc (by simp) _⟩
  | succ k ih =>
    intro s cs w hk hs
    obtain ⟨Ap, cp, C, hp1, hpc, hpm, hP, hA⟩ := hs.partsF
    have HW0 := hide (((Below.refl w.heap.size w).alloc (Nat.le_refl _) (.cells cs.toArray 28)).alloc (by simp) (.cells #[.int .i64 ((k : Int) + 1)] 3))
    have HX := hide ((Blk.new w 28 cs.toArray).alloc (.cells #[.int .i64 ((k : Int) + 1)] 3))
    have HY := hide (Blk.new2 w (.cells cs.toArray 28) 3 #[.int .i64 ((k : Int) + 1)])
    have HL := hide (show (Try.prog.info? 28).map (·.size) = some cs.length by rw [hs.length]; kernel_rfl)
    have HCP := hide (fun (W : World) (hW : Below w.heap.size w W) => valPlain_calls s cs W (hs.more hW))
    have HK1 : ∀ (W : World) (p : DVal) (D : List Value) (g : Nat), IsVal W (· < W.heap.size) p D → Blk W g 3 #[.int .i64 ((k : Int) + 1)] → Calls Try.prog 97 #[.agg D.toArray, .pointer (some ⟨g, 0, none⟩)] W (Gives (.bool (!rightV k p)) W) := by
      intro W p D g hp hg
      have hgl := hg.lt
      have B0 := (Below.refl W.heap.size W).alloc (Nat.le_refl _) (.cells D.toArray 28)
      have c0 : (W.alloc (.cells D.toArray 28)).cell? ⟨g, 0, none⟩ = some (.int .i64 ((k : Int) + 1)) := (hg.alloc _).cell 0
      have HI := hide (ih p D _ (by omega) (hp.more B0))
      have HB := hide (Blk.new W 28 D.toArray)
      have HB0 := hide B0
      have HL := hide (show (Try.prog.info? 28).map (·.size) = some D.toArray.size by rw [List.size_toArray, hp.length]; kernel_rfl)
      clear hp hg B0 ih hs hP hA
      go_enter Try.func97, Try.ntmps97
      go_wp2_with (first | (refine wpList_load_blk rfl 28 _ rfl _ rfl _ _ HB.out _ rfl rfl HL.out ?_) | fail)
      refine HI.out.mono ?_
      rintro e w1 ⟨rfl, hb1⟩
      have HB1 := hide (HB0.out.trans (hb1.mono HB0.out.size))
      clear hb1
      go_wp2
      go_ret
      exact ⟨ret_eq rfl, HB1.out⟩
    have HCC : Hid (∀ (W : World) (hW : Below w.heap.size w W) (hg : Blk W (w.heap.size + 1) 3 #[.int .i64 ((k : Int) + 1)]), Calls Try.prog 96 #[.slice Ap s.parts.length cp, .func (.func 97) #[] #[.pointer (some ⟨w.heap.size + 1, 0, none⟩)]] W (Gives (.bool (!s.parts.all (rightV k))) W)) := hide fun W hW hg => by
      have := valG_contains 97 (.pointer (some ⟨w.heap.size + 1, 0, none⟩)) (fun _ _ => by kernel_rfl) s.parts.length Ap cp (fun i => .agg (C i).toArray) (fun i => !rightV k (s.parts.getD i default)) W (by omega)
        (fun h0 => by
          obtain ⟨x, o, e, hx, hc⟩ := hA h0
          exact ⟨x, o, e, Nat.lt_of_lt_of_le hx hW.size, fun i hi => ⟨C i, rfl, (hc i hi).1, fun q v hv => (hW.cell (p := ⟨x, o + i * 6 + q, none⟩) hx).trans ((hc i hi).2 q v hv)⟩⟩)
        (fun i hi W2 hW2 => by
          have e1 : s.parts.getD i default = s.parts[i] := by simp [List.getD, hi]
          rw [e1]
          exact HK1 W2 _ _ _ ((hP i _ (List.getElem?_eq_getElem hi)).more (hW.trans (hW2.mono hW.size))) (hg.below hW2 hg.lt))
      rwa [all_getDV] at this
    have HSP : Hid (rightV (k + 1) s = (plainV s && s.parts.all (rightV k))) := hide rfl
    clear ih hs hP hA HK1
    cases hpl : plainV s
    all_goals
      rw [hpl] at HCP HSP
      clear hpl
      go_enter Try.func64, Try.ntmps64
      go_wp2_with (first | (refine wpList_load_blkG (by rfl) 28 _ rfl _ rfl _ cs HX.out _ rfl rfl HL.out ?_) | fail)
      refine (HCP.out _ HW0.out).mono ?_
      rintro e w1 ⟨rfl, hb1⟩
      have HB1 := hide (HW0.out.trans (hb1.mono HW0.out.size))
      have HX1 := hide (HX.out.below hb1 HX.out.lt)
      have HY1 := hide (HY.out.below hb1 HY.out.lt)
      clear hb1
    · go_wp2
      go_ret
      exact ⟨ret_eq (by rw [HSP.out]; rfl), HB1.out⟩
    · rw [Bool.true_and] at HSP
      have c2 : w1.cell? ⟨w.heap.size, 5, none⟩ = some (.slice Ap s.parts.length cp) := by rw [HX1.out.cell]; simpa using hp1
      go_wp2_with fail
      refine (HCC.out _ HB1.out HY1.out).mono ?_
      rintro e w2 ⟨rfl, hb2⟩
      have HB2 := hide (HB1.out.trans (hb2.mono HB1.out.size))
      clear hb2
      generalize s.parts.all (rightV k) = x at *
      go_wp2
      go_ret
      exact ⟨ret_eq (by rw [HSP.out]; first | rfl | (simp; done) | (simp; omega) | (simp; rw [Bool.eq_iff_iff]; simp; omega) | (rw [Bool.eq_iff_iff]; simp; omega) | (simp; rw [Bool.eq_iff_iff]; simp)), HB2.out⟩

set_option maxHeartbeats 400000 in
set_option maxRecDepth 20000 in
theorem valRightP_calls (s : DVal) (cs : List Value) (w : World) (hs : IsVal w (· < w.heap.size) s cs) :
    Calls Try.prog 38 #[.agg cs.toArray] w (Gives (.bool (rightV 5 s)) w) := by
  have HW0 := hide ((Below.refl w.heap.size w).alloc (Nat.le_refl _) (.cells cs.toArray 28))
  have HX := hide (Blk.new w 28 cs.toArray)
  have HL := hide (show (Try.prog.info? 28).map (·.size) = some cs.toArray.size by rw [List.size_toArray, hs.length]; kernel_rfl)
  have HC := hide (valRight_calls 5 s cs _ (by omega) (hs.more HW0.out))
  clear hs
  go_enter Try.func38, Try.ntmps38
  go_wp2_with (first | (refine wpList_load_blk rfl 28 _ rfl _ rfl _ _ HX.out _ rfl rfl HL.out ?_) | fail)
  refine HC.out.mono ?_
  rintro e w1 ⟨rfl, hb1⟩
  have HB1 := hide (HW0.out.trans (hb1.mono HW0.out.size))
  clear hb1
  go_wp2
  go_ret
  exact ⟨ret_eq rfl, HB1.out⟩


end Go.Proofs.Ytjjhjhjphhpeiaa

/- Values, walked: depths. Conditions: none. -/
namespace Go.Proofs.Ytjjhjhjphhpeiaa
open Go.RowKit

set_option maxHeartbeats 1000000 in
set_option maxRecDepth 20000 in
theorem refValDepth_calls (k : Nat) : ∀ (s : DVal) (cs : List Value) (w : World), s.depth ≤ k → k ≤ 1000000 → IsVal w (· < w.heap.size) s cs →
    Calls Try.prog 42 #[.agg cs.toArray] w (Gives (.int .i64 s.depth) w) := by
  induction k with
  | zero => intro s cs w h; have := s.depth_pos; omega
  | succ k ih =>
    intro s cs w hk hkk hs
    obtain ⟨Ap, cp, hc, hcp, hmp, hA⟩ := hs.parts_
    have HI := hide ih
    have HA := hide hA
    have HS := hide hs
    have HD := hide s.depth_eq
    have hdp := s.depth_eq
    have HB0 := hide (Blk.new w 28 cs.toArray)
    have HW0 := hide ((Below.refl w.heap.size w).alloc (Nat.le_refl _) (.cells cs.toArray 28))
    have HP := hide (fun p (h : p ∈ s.parts) => DVal.depth_part h)
    clear ih hA hs
    go_enter Try.func42, Try.ntmps42
    go_wp2_with fail
    go_loopw [3, 4] (fun nv iv wr => ∃ (i : Nat), iv = .int .i64 i ∧ i ≤ s.parts.length ∧ nv = .int .i64 ((DVal.depths (s.parts.take i) : Nat) + 1 : Int) ∧ Blk wr w.heap.size 28 cs.toArray ∧ Below w.heap.size w wr) (fun _ iv _ => s.parts.length - (intOf iv).toNat)
    case atStart => exact ⟨0, rfl, Nat.zero_le _, rfl, HB0.out, HW0.out⟩
    case round =>
      obtain ⟨i, rfl, hi, rfl, hblk, hw⟩ := hrel
      obtain ⟨wo, rfl⟩ : ∃ wo : World, wo = wr := ⟨_, rfl⟩
      have GW := hide hw
      have GB := hide hblk
      clear hw hblk HB0 HW0
      have hle := DVal.depths_le s.parts i
      have cf : wo.cell? ⟨w.heap.size, 5, none⟩ = cs[5]? := by have := GB.out.cell 5; simpa using this
      rw [hc] at cf
      by_cases hlt : i < s.parts.length
      · obtain ⟨b, o, rfl, hb, hC⟩ := HA.out (by omega)
        obtain ⟨C, hl3, hr, hpi⟩ := hC i _ (List.getElem?_eq_getElem hlt)
        have HRW : Hid (wo.rangeAt b (o + i * 6) C) := hide fun q v hv => (GW.out.cell (p := ⟨b, o + i * 6 + q, none⟩) hb).trans (hr q v hv)
        have HL3 := hide hl3
        have HPI := hide hpi
        have HT := hide (DVal.depths_take s.parts i hlt)
        have hpd := HP.out _ (List.getElem_mem hlt)
        clear hC hl3 hr hpi
        generalize s.parts[i] = p at *
        generalize DVal.depths (s.parts.take i) = m at *
        go_wp2_with (first
          | (refine wpList_load_mid rfl 28 _ rfl b (o + i * 6) rfl C _ HRW.out rfl rfl (by rw [HL3.out]; kernel_rfl) ?_)
          | fail)
        refine (HI.out p C _ (by omega) (by omega) (HPI.out.more GW.out)).mono ?_
        rintro e w1 ⟨rfl, hb1⟩
        have KB := hide (GB.out.below hb1 GB.out.lt)
        have KW := hide (GW.out.trans (hb1.mono GW.out.size))
        clear hb1
        by_cases hgt : m < p.depth
        · go_wp2_with fail
          exact ⟨⟨i + 1, by go_num, by omega, by rw [HT.out, Nat.max_eq_right (by omega)], KB.out, KW.out⟩, by simp [intOf]; omega⟩
        · go_wp2_with fail
          exact ⟨⟨i + 1, by go_num, by omega, by rw [HT.out, Nat.max_eq_left (by omega)], KB.out, KW.out⟩, by simp [intOf]; omega⟩
      · have HE : Hid (((DVal.depths (s.parts.take i) : Nat) : Int) + 1 = (s.depth : Int)) := hide (by rw [List.take_of_length_le (by omega), HD.out]; rfl)
        generalize DVal.depths (s.parts.take i) = m at *
        go_wp2
        go_ret
        exact ⟨ret_eq (by rw [← HE.out]; rfl), GW.out⟩

end Go.Proofs.Ytjjhjhjphhpeiaa

/- Values: the size that is asked of (Great). Conditions: none. -/
namespace Go.Proofs.Ytjjhjhjphhpeiaa
open Go.RowKit Go.ChangeShapes Go.WideShapes Go.ChangeAt

/-- How much is left of n. -/
def roomV : Nat → DVal → Int → Int
  | 0, _, _ => -1
  | k + 1, s, n =>
    if 400 < s.s.length then -1
    else s.parts.foldl (fun m p => if 0 ≤ m then roomV k p m else m) (n - 1 - s.names.length - s.ids.length)
theorem foldRoomV_neg (k : Nat) : ∀ (l : List DVal) (m : Int), m < 0 → l.foldl (fun m p => if 0 ≤ m then roomV k p m else m) m = m
  | [], _, _ => rfl
  | p :: l, m, h => by rw [List.foldl_cons, if_neg (by omega)]; exact foldRoomV_neg k l m h
/-- Nothing too great: depth, words' sizes, all hereditarily. -/
def FineV : Nat → DVal → Prop
  | 0, _ => False
  | k + 1, s => s.s.length ≤ 400 ∧ ∀ p ∈ s.parts, FineV k p
theorem roomV_spec : ∀ (k : Nat) (s : DVal) (n : Int), 0 ≤ roomV k s n → roomV k s n = n - s.weight ∧ FineV k s
  | 0, s, n, h => by simp [roomV] at h
  | k + 1, s, n, h => by
    have hwt := DVal.weight_eq s
    unfold roomV at h ⊢
    by_cases hb : 400 < s.s.length
    · rw [if_pos hb] at h; omega
    · rw [if_neg hb] at h ⊢
      have hw : s.s.length ≤ 400 := by omega
      have key : ∀ (l : List DVal) (m : Int), 0 ≤ l.foldl (fun m p => if 0 ≤ m then roomV k p m else m) m →
          l.foldl (fun m p => if 0 ≤ m then roomV k p m else m) m = m - DVal.weights l ∧ ∀ p ∈ l, FineV k p := by
        intro l
        induction l with
        | nil => intro m _; exact ⟨by simp [DVal.weights], fun p hp => by cases hp⟩
        | cons p l ih =>
          intro m hm
          rw [List.foldl_cons] at hm ⊢
          have h0 : 0 ≤ m := by
            rcases Int.lt_or_le m 0 with hx | hx
            · rw [if_neg (by omega), foldRoomV_neg k l m hx] at hm; exact hm
            · exact hx
          rw [if_pos h0] at hm ⊢
          have h1 : 0 ≤ roomV k p m := by
            rcases Int.lt_or_le (roomV k p m) 0 with hx | hx
            · rw [foldRoomV_neg k l _ hx] at hm; exact hm
            · exact hx
          obtain ⟨e1, f1⟩ := roomV_spec k p m h1
          obtain ⟨e2, f2⟩ := ih _ hm
          refine ⟨by rw [e2, e1]; simp only [DVal.weights]; omega, fun q hq => ?_⟩
          rcases List.mem_cons.1 hq with rfl | hq
          · exact f1
          · exact f2 q hq
      obtain ⟨e, f⟩ := key s.parts _ h
      refine ⟨by rw [e]; omega, ?_⟩
      exact ⟨hw, f⟩
theorem roomV_le : ∀ (k : Nat) (s : DVal) (n : Int), -1 ≤ n → roomV k s n ≤ n ∧ (roomV k s n ≤ -1 ∨ 0 ≤ roomV k s n)
  | 0, s, n, h => by simp [roomV]; omega
  | k + 1, s, n, h => by
    unfold roomV
    split
    · omega
    · have key : ∀ (l : List DVal) (m : Int), l.foldl (fun m p => if 0 ≤ m then roomV k p m else m) m ≤ m := by
        intro l
        induction l with
        | nil => intro m; exact Int.le_refl _
        | cons p l ih =>
          intro m
          rw [List.foldl_cons]
          refine Int.le_trans (ih _) ?_
          split
          · exact (roomV_le k p m (by omega)).1
          · exact Int.le_refl _
      have := key s.parts (n - 1 - s.names.length - s.ids.length)
      omega
end Go.Proofs.Ytjjhjhjphhpeiaa

/- Values, walked: Great. Conditions: none. -/
namespace Go.Proofs.Ytjjhjhjphhpeiaa
open Go.RowKit

theorem info_valB : (Try.prog.info? 28).map (·.size) = some 6 := by kernel_rfl

set_option maxHeartbeats 1000000 in
set_option maxRecDepth 20000 in
theorem roomV_calls (k : Nat) : ∀ (s : DVal) (n : Int) (cs : List Value) (w : World), IsVal w (· < w.heap.size) s cs → k ≤ 1000 → 0 ≤ n → n ≤ 1000 →
    Calls Try.prog 33 #[.agg cs.toArray, .int .i64 n, .int .i64 k] w (fun e w' => -1000000000000000 ≤ roomV k s n ∧ Gives (.int .i64 (roomV k s n)) w e w') := by
  induction k with
  | zero =>
    intro s n cs w hs hk hn hn2
    obtain ⟨An, cn, hw1, _, _, _, hwm⟩ := hs.names_
    obtain ⟨Ai, ci, hi1, _, _, _, him⟩ := hs.ids_
    clear hs
    go_enter Try.func33, Try.ntmps33
    go_wp2
    go_ret
    exact ⟨by simp [roomV], ret_eq rfl, (Below.refl _ _).alloc (Nat.le_refl _) _⟩
  | succ k ih =>
    intro s n cs w hs hk hn hn2
    have HI := hide ih
    clear ih
    obtain ⟨hs1, hsl⟩ := hs.s_
    obtain ⟨An, cn, hw1, _, _, _, hwm⟩ := hs.names_
    obtain ⟨Ai, ci, hi1, _, _, _, him⟩ := hs.ids_
    obtain ⟨Ap, cp, C, hp1, hpc, hpm, hP, hA⟩ := hs.partsF
    have HA := hide hA
    have HP := hide hP
    have HSP : Hid (roomV (k + 1) s n = if 400 < s.s.length then -1 else s.parts.foldl (fun m p => if 0 ≤ m then roomV k p m else m) (n - 1 - s.names.length - s.ids.length)) := hide rfl
    have HK0 := hide (Blk.new w 28 cs.toArray)
    have HW0 := hide ((Below.refl w.heap.size w).alloc (Nat.le_refl _) (.cells cs.toArray 28))
    clear hA hP hs
    have hk1 : (((k + 1 : Nat) : Int) == 0) = false := by simp; omega
    have hk2 : (((k : Int) + 1) == 0) = false := by simp; omega
    have hlow : -1000000000000000 ≤ n - 1 - (s.names.length : Int) - (s.ids.length : Int) := by omega
    have hstart : n - 1 - (s.names.length : Int) - (s.ids.length : Int) ≤ 1000 := by omega
    by_cases hbig : 400 < s.s.length
    · have HB := hide hbig
      generalize s.s = x at *
      go_enter Try.func33, Try.ntmps33
      go_wp2
      go_ret
      exact ⟨by rw [HSP.out, if_pos HB.out]; omega, ret_eq (by rw [HSP.out, if_pos HB.out]; rfl), HW0.out⟩
    · have HE : Hid (roomV (k + 1) s n = s.parts.foldl (fun m p => if 0 ≤ m then roomV k p m else m) (n - 1 - s.names.length - s.ids.length)) := hide (by rw [HSP.out, if_neg hbig])
      clear HSP
      generalize s.s = x at *
      have hbd : ¬ (400 : Int) < (x.length : Int) := by omega
      have hbe : decide ((400 : Int) < (x.length : Int)) = false := decide_eq_false hbd
      go_enter Try.func33, Try.ntmps33
      go_wp2_with fail
      generalize hm0 : n - 1 - (s.names.length : Int) - (s.ids.length : Int) = m0 at *
      clear hm0
      go_loopw [1, 7] (fun nv iv wr => ∃ (i : Nat) (m : Int), nv = .int .i64 m ∧ iv = .int .i64 i ∧ i ≤ s.parts.length ∧ m ≤ 1000 ∧ -1000000000000000 ≤ m ∧ m = (s.parts.take i).foldl (fun m p => if 0 ≤ m then roomV k p m else m) m0 ∧ Blk wr w.heap.size 28 cs.toArray ∧ Below w.heap.size w wr) (fun _ iv _ => s.parts.length - (intOf iv).toNat)
      case atStart => exact ⟨0, m0, rfl, rfl, Nat.zero_le _, hstart, hlow, rfl, HK0.out, HW0.out⟩
      case round =>
        clear HK0 HW0
        obtain ⟨i, m, rfl, rfl, hi, hm1, hm2, hfold, hblk, hbel⟩ := hrel
        have HF := hide hfold
        have GB := hide hblk
        have GW := hide hbel
        clear hfold hblk hbel
        have c2 : wr.cell? ⟨w.heap.size, 5, none⟩ = some (.slice Ap s.parts.length cp) := by rw [GB.out.cell]; simpa using hp1
        by_cases hgo : i < s.parts.length ∧ 0 ≤ m
        · obtain ⟨hlt, h0⟩ := hgo
          obtain ⟨b, o, rfl, hb, hC⟩ := HA.out (by omega)
          obtain ⟨hl3, hr⟩ := hC i hlt
          have hg := List.getElem?_eq_getElem hlt
          have HRW : Hid (wr.rangeAt b (o + i * 6) (C i)) := hide fun q v hv => (GW.out.cell (p := ⟨b, o + i * 6 + q, none⟩) hb).trans (hr q v hv)
          have HL3 := hide hl3
          have HPI := hide ((HP.out i _ hg).more GW.out)
          have HRL := hide (roomV_le k s.parts[i] m (by omega))
          have HFS : Hid ((s.parts.take (i + 1)).foldl (fun m p => if 0 ≤ m then roomV k p m else m) m0 = roomV k s.parts[i] m) := hide (by
            rw [List.take_succ_eq_append_getElem hlt, List.foldl_append, ← HF.out, List.foldl_cons, List.foldl_nil, if_pos h0])
          clear hr hl3 hg hC
          generalize s.parts[i] = p at *
          generalize C i = es at *
          go_wp2_with (first | (refine wpList_load_mid rfl 28 _ rfl b (o + i * 6) rfl es _ HRW.out rfl rfl (by rw [HL3.out]; exact info_valB) ?_) | fail)
          refine (HI.out p m es _ HPI.out (by omega) h0 hm1).mono ?_
          rintro e w1 ⟨hlo, rfl, hb1⟩
          have hrl := HRL.out
          generalize roomV k p m = m1 at *
          go_wp2_with fail
          exact ⟨⟨i + 1, m1, rfl, by go_num, by omega, by omega, by omega, HFS.out.symm, GB.out.below hb1 GB.out.lt, GW.out.trans (hb1.mono GW.out.size)⟩, by simp [intOf]; omega⟩
        · have HX : Hid (roomV (k + 1) s n = m) := hide (by
            rw [HE.out, HF.out]
            rcases Nat.lt_or_ge i s.parts.length with hx | hx
            · have hm : m < 0 := by omega
              have e : s.parts.foldl (fun m p => if 0 ≤ m then roomV k p m else m) m0 = (s.parts.drop i).foldl (fun m p => if 0 ≤ m then roomV k p m else m) m := by
                rw [HF.out, ← List.foldl_append, List.take_append_drop]
              rw [e, foldRoomV_neg k _ _ hm, HF.out]
            · rw [List.take_of_length_le hx])
          clear HF HE
          by_cases hlt : i < s.parts.length
          all_goals
            go_wp2
            go_ret
            exact ⟨by rw [HX.out]; exact hm2, ret_eq (by rw [HX.out]; rfl), GW.out⟩

set_option maxHeartbeats 400000 in
set_option maxRecDepth 20000 in
theorem greatV_calls (s : DVal) (cs : List Value) (w : World) (hs : IsVal w (· < w.heap.size) s cs) :
    Calls Try.prog 10 #[.agg cs.toArray] w (Gives (.bool (decide (roomV 12 s 300 < 0))) w) := by
  have HB := hide (Blk.new w 28 cs.toArray)
  have HW := hide ((Below.refl w.heap.size w).alloc (Nat.le_refl _) (.cells cs.toArray 28))
  have HS := hide (hs.more HW.out)
  have hl := hs.length
  have HC := hide (roomV_calls 12 s 300 cs _ HS.out (by omega) (by omega) (by omega))
  have HL := hide (show (Try.prog.info? 28).map (·.size) = some cs.toArray.size by rw [info_valB]; simp [hl])
  clear hs hl
  go_enter Try.func10, Try.ntmps10
  go_wp2_with (first | (refine wpList_load_blk rfl 28 _ rfl _ rfl _ _ HB.out _ rfl rfl HL.out ?_) | fail)
  refine HC.out.mono ?_
  rintro e w1 ⟨hlo, rfl, hb1⟩
  have HW1 := hide (HW.out.trans (hb1.mono HW.out.size))
  clear hb1
  generalize roomV 12 s 300 = m at *
  go_wp2
  go_ret
  exact ⟨ret_eq rfl, HW1.out⟩
end Go.Proofs.Ytjjhjhjphhpeiaa

/- Schemas, walked: the document's own 'right'. Conditions: none. -/
namespace Go.Proofs.Ytjjhjhjphhpeiaa
open Go.RowKit

def badHead (kd : Int) (nw : Nat) : Prop := kd < 1 ∨ 6 < kd ∨ 8 < nw ∨ (kd ≠ 4 ∧ kd ≠ 5 ∧ 0 < nw) ∨ (kd = 4 ∧ nw = 0)
instance (kd : Int) (nw : Nat) : Decidable (badHead kd nw) := by unfold badHead; exact inferInstance
def wantS (kd : Int) (nw : Nat) : Nat := if kd = 5 then nw else if kd = 6 then 1 else 0
/-- Two words clash. -/
def clash (kd : Int) (x y : Str) : Bool := decide (x = y) || (decide (kd = 5) && sLt x y)
def wordOk (kd : Int) (l : List Str) (i : Nat) : Bool := nameB (l.getD i []) && (List.range i).all fun j => !clash kd (l.getD i []) (l.getD j [])
def hereS (s : DSch) : Bool := !decide (badHead s.kind s.words.length) && (decide (s.parts.length = wantS s.kind s.words.length) && (List.range s.words.length).all (wordOk s.kind s.words))
def soundS : Nat → DSch → Bool
  | 0, _ => true
  | k + 1, s => hereS s && s.parts.all (soundS k)
def headB (kd : Int) (nw : Nat) : Bool := decide (badHead kd nw)
theorem headB_t {kd : Int} {nw : Nat} (h : badHead kd nw) : headB kd nw = true := decide_eq_true h
theorem headB_f {kd : Int} {nw : Nat} (h : ¬ badHead kd nw) : headB kd nw = false := decide_eq_false h

set_option maxHeartbeats 4000000 in
set_option maxRecDepth 20000 in
theorem refSound_calls (k : Nat) : ∀ (s : DSch) (cs : List Value) (w : World), s.depth ≤ k → IsSch w (· < w.heap.size) s cs →
    Calls Try.prog 74 #[.agg cs.toArray] w (Gives (.bool (soundS k s)) w) := by
  induction k with
  | zero => intro s cs w h; have := s.depth_pos; omega
  | succ k ih =>
    intro s cs w hk hs
    obtain ⟨hk1, hki⟩ := hs.kind_
    obtain ⟨Aw, cw, hw1, hwr, hwz, hwc, hwm⟩ := hs.words_
    obtain ⟨Ap, cp, C, hp1, hpc, hpm, hP, hA⟩ := hs.partsF
    have HW0 := hide ((Below.refl w.heap.size w).alloc (Nat.le_refl _) (.cells cs.toArray 47))
    have HX := hide (Blk.new w 47 cs.toArray)
    have HWR := hide hwr
    have HWZ := hide hwz
    have HPA := hide hA
    have HPP := hide hP
    have HI := hide ih
    have HDP := hide (fun p (h : p ∈ s.parts) => DSch.depth_part h)
    have HSP : Hid (soundS (k + 1) s = ((!headB s.kind s.words.length && (decide (s.parts.length = wantS s.kind s.words.length) && (List.range s.words.length).all (wordOk s.kind s.words))) && s.parts.all (soundS k))) := hide rfl
    have hkb := i64_wf hki
    clear ih hs hwr hwz hP hA hki
    generalize hres : soundS (k + 1) s = res at *
    clear hres
    go_enter Try.func74, Try.ntmps74
    go_upto_region 1 with fail
    go_cut [47] (fun c wx => c = .bool (headB s.kind s.words.length) ∧ wx = w.alloc (.cells cs.toArray 47))
    case first =>
      generalize s.kind = kd at *
      generalize s.words.length = nw at *
      have key : kd < 1 ∨ 6 < kd ∨ (1 ≤ kd ∧ kd ≤ 6 ∧ 8 < nw) ∨ ((kd = 1 ∨ kd = 2 ∨ kd = 3 ∨ kd = 6) ∧ nw = 0) ∨ ((kd = 1 ∨ kd = 2 ∨ kd = 3 ∨ kd = 6) ∧ 0 < nw ∧ nw ≤ 8) ∨ (kd = 4 ∧ nw = 0) ∨ (kd = 4 ∧ 0 < nw ∧ nw ≤ 8) ∨ (kd = 5 ∧ nw ≤ 8) := by omega
      rcases key with h | h | h | h | h | h | h | h
      · have HR : Hid (headB kd nw = true) := hide (headB_t (by unfold badHead; omega))
        go_wp2_with fail
        go_meet
        exact ⟨by rw [HR.out], rfl⟩
      · have HR : Hid (headB kd nw = true) := hide (headB_t (by unfold badHead; omega))
        have l1 : 1 ≤ kd := by omega
        go_wp2_with fail
        go_meet
        exact ⟨by rw [HR.out] <;> (first | rfl | (simp; done) | (simp; omega)), rfl⟩
      · have HR : Hid (headB kd nw = true) := hide (headB_t (by unfold badHead; omega))
        obtain ⟨l1, l6, l8⟩ := h
        go_wp2_with fail
        go_meet
        exact ⟨by rw [HR.out] <;> (first | rfl | (simp; done) | (simp; omega)), rfl⟩
      all_goals
        first
          | (have HR : Hid (headB kd nw = true) := hide (headB_t (by unfold badHead; omega)))
          | (have HR : Hid (headB kd nw = false) := hide (headB_f (by unfold badHead; omega)))
        have l1 : 1 ≤ kd := by omega
        have l6 : kd ≤ 6 := by omega
        have l8 : nw ≤ 8 := by omega
        first
          | (have f4 : (kd != 4) = true := by simp; omega)
          | (have f4 : (kd != 4) = false := by simp; omega)
        first
          | (have e4 : (kd == 4) = true := by simp; omega)
          | (have e4 : (kd == 4) = false := by simp; omega)
        first
          | (have f5 : (kd != 5) = true := by simp; omega)
          | (have f5 : (kd != 5) = false := by simp; omega)
        first
          | (have l0 : 0 < nw := by omega; have z0 : ((nw : Int) == 0) = false := by simp; omega)
          | (have l0 : nw ≤ 0 := by omega; have z0 : ((nw : Int) == 0) = true := by simp; omega)
          | skip
        have HH := hide h
        clear h
        go_wp2_with fail
        all_goals
          go_meet
          have h := HH.out
          exact ⟨by rw [HR.out] <;> (first | rfl | (simp; done) | (simp; omega)), rfl⟩
    case rest =>
      obtain ⟨rfl, rfl⟩ := hcut
      cases hh : headB s.kind s.words.length
      case true =>
        rw [hh] at HSP
        have HR : Hid (res = false) := hide (by rw [HSP.out]; simp)
        clear hh HSP
        go_wp2
        go_ret
        exact ⟨ret_eq (by rw [HR.out]; rfl), HW0.out⟩
      case false =>
        have hgood : ¬ badHead s.kind s.words.length := of_decide_eq_false hh
        rw [hh, Bool.not_false, Bool.true_and] at HSP
        have hn8 : s.words.length ≤ 8 := by unfold badHead at hgood; omega
        have HWANT : Hid (wantS s.kind s.words.length = if s.kind = 5 then s.words.length else if s.kind = 6 then 1 else 0) := hide rfl
        clear hh hgood
        generalize hwn : wantS s.kind s.words.length = want at *
        have hwant8 : want ≤ 8 := by rw [HWANT.out]; split <;> (try split) <;> omega
        clear hwn
        go_upto_if 50 with fail
        go_cut [3] (fun c wx => c = .int .i64 (((if s.kind = 5 then s.words.length else 0 : Nat)) : Int) ∧ wx = w.alloc (.cells cs.toArray 47))
        case first =>
          by_cases h5 : s.kind = 5
          · have e5 : (s.kind == 5) = true := by simp [h5]
            have HH := hide h5
            clear h5
            go_wp2_with fail
            go_meet
            exact ⟨by rw [if_pos HH.out], rfl⟩
          · have e5 : (s.kind == 5) = false := by simpa using h5
            have HH := hide h5
            clear h5
            go_wp2_with fail
            go_meet
            exact ⟨by rw [if_neg HH.out]; rfl, rfl⟩
        case rest =>
          obtain ⟨rfl, rfl⟩ := hcut
          generalize hx5 : (if s.kind = 5 then s.words.length else 0 : Nat) = x5
          have HX5 := hide hx5
          clear hx5
          go_upto_if 56 with fail
          go_cut [3] (fun c wx => c = .int .i64 (want : Int) ∧ wx = w.alloc (.cells cs.toArray 47))
          case first =>
            by_cases h6 : s.kind = 6
            · have e6 : (s.kind == 6) = true := by simp [h6]
              have HH := hide h6
              clear h6
              go_wp2_with fail
              go_meet
              exact ⟨by rw [HWANT.out, if_neg (by rw [HH.out]; decide), if_pos HH.out]; rfl, rfl⟩
            · have e6 : (s.kind == 6) = false := by simpa using h6
              have HH := hide h6
              clear h6
              go_wp2_with fail
              go_meet
              exact ⟨by rw [HWANT.out, ← HX5.out, if_neg HH.out], rfl⟩
          case rest =>
            obtain ⟨rfl, rfl⟩ := hcut
            clear HX5 HWANT
            by_cases hpw : s.parts.length = want
            case neg =>
              have hne : ((s.parts.length : Int) != (want : Int)) = true := by simp; omega
              have HR : Hid (res = false) := hide (by rw [HSP.out, decide_eq_false hpw]; simp)
              clear hpw HSP
              go_wp2
              go_ret
              exact ⟨ret_eq (by rw [HR.out]; rfl), HW0.out⟩
            have hne : ((s.parts.length : Int) != (want : Int)) = false := by simp [hpw]
            rw [decide_eq_true hpw, Bool.true_and] at HSP
            clear hpw
            go_wp2_with fail
            go_loopw [4] (fun i wr => ∃ (n : Nat), i = .int .i64 n ∧ n ≤ s.words.length ∧ (∀ r, r < n → wordOk s.kind s.words r = true) ∧ Blk wr w.heap.size 47 cs.toArray ∧ Below w.heap.size w wr) (fun i _ => s.words.length - (intOf i).toNat)
            case atStart => exact ⟨0, rfl, Nat.zero_le _, fun r hr => by omega, HX.out, HW0.out⟩
            case round =>
              obtain ⟨n, rfl, hn, hok, hblk, hw⟩ := hrel
              have GN := hide hok
              have GB := hide hblk
              have GW := hide hw
              clear hok hblk hw HX HW0 hne
              obtain ⟨wo, rfl⟩ : ∃ wo : World, wo = wr := ⟨_, rfl⟩
              have c1 : wo.cell? ⟨w.heap.size, 1, none⟩ = some (.slice Aw s.words.length cw) := by rw [GB.out.cell]; simpa using hw1
              by_cases hlt : n < s.words.length
              · obtain ⟨x, o, rfl, hx, hcw⟩ := HWR.out.at_ hlt
                have d1 : wo.cell? ⟨x, o + n, none⟩ = some (sv s.words[n]) := (GW.out.cell (p := ⟨x, o + n, none⟩) hx).trans hcw
                have hz := HWZ.out _ (List.getElem_mem hlt)
                have HCN := hide (fun (W : World) => refName_calls s.words[n] W hz)
                have HG := hide (show s.words.getD n [] = s.words[n] by simp [List.getD, hlt])
                have HBAD : Hid (wordOk s.kind s.words n = false → res = false) := hide fun h => by
                  rw [HSP.out, show (List.range s.words.length).all (wordOk s.kind s.words) = false from List.all_eq_false.2 ⟨n, List.mem_range.2 hlt, by rw [h]; simp⟩]
                  rfl
                have HOK : Hid (wordOk s.kind s.words n = (nameB (s.words.getD n []) && (List.range n).all fun j => !clash s.kind (s.words.getD n []) (s.words.getD j []))) := hide rfl
                rw [HG.out] at HOK
                clear hcw hz HG
                generalize hsn : s.words[n] = sn at *
                have HSN := hide hsn
                clear hsn
                cases hnm : nameB sn
                case false =>
                  rw [hnm] at HCN HOK
                  clear hnm
                  go_wp2_with fail
                  refine (HCN.out _).mono ?_
                  rintro e w1 ⟨rfl, rfl⟩
                  go_wp2
                  go_ret
                  exact ⟨ret_eq (by rw [HBAD.out (by rw [HOK.out]; rfl)]; rfl), GW.out⟩
                case true =>
                  rw [hnm, Bool.true_and] at HOK
                  rw [hnm] at HCN
                  clear hnm
                  go_wp2_with fail
                  refine (HCN.out _).mono ?_
                  rintro e w1 ⟨rfl, rfl⟩
                  go_wp2_with fail
                  go_loopw [5] (fun i wr => ∃ (j : Nat), i = .int .i64 j ∧ j ≤ n ∧ (∀ r, r < j → clash s.kind sn (s.words.getD r []) = false) ∧ Blk wr w.heap.size 47 cs.toArray ∧ Below w.heap.size w wr) (fun i _ => n - (intOf i).toNat)
                  case atStart => exact ⟨0, rfl, Nat.zero_le _, fun r hr => by omega, GB.out, GW.out⟩
                  case round =>
                    clear c1 d1 GB GW
                    obtain ⟨j, rfl, hj, hcl, hblk, hw⟩ := hrel
                    have GJ := hide hcl
                    have GB := hide hblk
                    have GW := hide hw
                    clear hcl hblk hw
                    have c0 : wr.cell? ⟨w.heap.size, 0, none⟩ = some (.int .i64 s.kind) := by rw [GB.out.cell]; simpa using hk1
                    have c1 : wr.cell? ⟨w.heap.size, 1, none⟩ = some (.slice (some ⟨x, o, none⟩) s.words.length cw) := by rw [GB.out.cell]; simpa using hw1
                    by_cases hjn : j < n
                    · have hjl : j < s.words.length := by omega
                      obtain ⟨x', o', e', _, hcj⟩ := HWR.out.at_ hjl
                      obtain ⟨rfl, rfl⟩ : x = x' ∧ o = o' := by injection e' with e'; injection e' with e1 e2; exact ⟨e1, e2⟩
                      obtain ⟨x', o', e'', _, hcn⟩ := HWR.out.at_ hlt
                      obtain ⟨rfl, rfl⟩ : x = x' ∧ o = o' := by injection e'' with e'; injection e' with e1 e2; exact ⟨e1, e2⟩
                      rw [HSN.out] at hcn
                      have d1 : wr.cell? ⟨x, o + n, none⟩ = some (sv sn) := (GW.out.cell (p := ⟨x, o + n, none⟩) hx).trans hcn
                      have d2 : wr.cell? ⟨x, o + j, none⟩ = some (sv s.words[j]) := (GW.out.cell (p := ⟨x, o + j, none⟩) hx).trans hcj
                      have HG := hide (show s.words.getD j [] = s.words[j] by simp [List.getD, hjl])
                      have HBJ : Hid (clash s.kind sn (s.words.getD j []) = true → res = false) := hide fun h => HBAD.out (by
                        rw [HOK.out, List.all_eq_false]
                        exact ⟨j, List.mem_range.2 hjn, by rw [h]; simp⟩)
                      rw [HG.out] at HBJ
                      have HCJ : Hid (clash s.kind sn s.words[j] = false → ∀ r, r < j + 1 → clash s.kind sn (s.words.getD r []) = false) := hide fun h r hr => by
                        by_cases e : r = j
                        · rw [e, HG.out]; exact h
                        · exact GJ.out r (by omega)
                      have j1 : (0 : Int) ≤ (n : Int) := by omega
                      have j2 : (n : Int) < (s.words.length : Int) := by omega
                      have j3 : (0 : Int) ≤ (j : Int) := by omega
                      have j4 : (j : Int) < (s.words.length : Int) := by omega
                      clear hcj hcn e' e'' HG
                      generalize s.words[j] = sj at *
                      cases hss : (sn == sj)
                      case true =>
                        have HC : Hid (clash s.kind sn sj = true) := hide (by unfold clash; rw [show sn = sj by simpa using hss]; simp)
                        go_wp2_with fail
                        go_quiet (fail)
                        go_wp2
                        go_ret
                        exact ⟨ret_eq (by rw [HBJ.out HC.out]; rfl), below_drewN GW.out _⟩
                      case false =>
                        have hne : sn ≠ sj := by simpa using hss
                        have HNE := hide hne
                        clear hne
                        by_cases h5 : s.kind = 5
                        · have e5 : (s.kind == 5) = true := by simp [h5]
                          have H5 := hide h5
                          clear h5
                          cases hl : Op.bytesLess sn sj
                          case true =>
                            have HC : Hid (clash s.kind sn sj = true) := hide (by unfold clash; rw [H5.out, show sLt sn sj = true from hl]; simp)
                            go_wp2_with fail
                            go_quiet (fail)
                            go_wp2
                            go_ret
                            exact ⟨ret_eq (by rw [HBJ.out HC.out]; rfl), below_drewN GW.out _⟩
                          case false =>
                            have HC : Hid (clash s.kind sn sj = false) := hide (by unfold clash; rw [show sLt sn sj = false from hl, decide_eq_false HNE.out]; simp)
                            go_wp2_with fail
                            go_quiet (fail)
                            go_wp2_with fail
                            exact ⟨⟨j + 1, by go_num, by omega, HCJ.out HC.out, GB.out.drewN _, below_drewN GW.out _⟩, by simp [intOf]; omega⟩
                        · have e5 : (s.kind == 5) = false := by simpa using h5
                          have HC : Hid (clash s.kind sn sj = false) := hide (by unfold clash; rw [decide_eq_false h5, decide_eq_false HNE.out]; simp)
                          clear h5
                          go_wp2_with fail
                          go_quiet (fail)
                          go_wp2_with fail
                          exact ⟨⟨j + 1, by go_num, by omega, HCJ.out HC.out, GB.out.drewN _, below_drewN GW.out _⟩, by simp [intOf]; omega⟩
                    · obtain rfl : j = n := by omega
                      have HG : Hid (∀ r, r < j + 1 → wordOk s.kind s.words r = true) := hide fun r hr => by
                        by_cases e : r = j
                        · rw [e, HOK.out, List.all_eq_true]
                          exact fun q hq => by rw [GJ.out q (List.mem_range.1 hq)]; rfl
                        · exact GN.out r (by omega)
                      go_wp2_with fail
                      exact ⟨⟨j + 1, by go_num, by omega, HG.out, GB.out, GW.out⟩, by simp [intOf]; omega⟩
              · have HW : Hid (res = s.parts.all (soundS k)) := hide (by
                  rw [HSP.out, show (List.range s.words.length).all (wordOk s.kind s.words) = true from List.all_eq_true.2 fun r hr => GN.out r (by have := List.mem_range.1 hr; omega), Bool.true_and])
                clear HSP GN
                go_wp2_with fail
                go_loopw [6] (fun i wr => ∃ (j : Nat), i = .int .i64 j ∧ j ≤ s.parts.length ∧ (∀ p ∈ s.parts.take j, soundS k p = true) ∧ Blk wr w.heap.size 47 cs.toArray ∧ Below w.heap.size w wr) (fun i _ => s.parts.length - (intOf i).toNat)
                case atStart => exact ⟨0, rfl, Nat.zero_le _, by simp, GB.out, GW.out⟩
                case round =>
                  clear c1 GB GW
                  obtain ⟨j, rfl, hj, hok, hblk, hw⟩ := hrel
                  have GN := hide hok
                  have GB := hide hblk
                  have GW := hide hw
                  clear hok hblk hw
                  have c2 : wr.cell? ⟨w.heap.size, 2, none⟩ = some (.slice Ap s.parts.length cp) := by rw [GB.out.cell]; simpa using hp1
                  by_cases hlt2 : j < s.parts.length
                  · obtain ⟨x, o, rfl, hx, hc⟩ := HPA.out (by omega)
                    obtain ⟨hl3, hr⟩ := hc j hlt2
                    have HRW : Hid (wr.rangeAt x (o + j * 3) (C j)) := hide fun q v hv => (GW.out.cell (p := ⟨x, o + j * 3 + q, none⟩) hx).trans (hr q v hv)
                    have HL3 := hide hl3
                    have HPI := hide ((HPP.out j _ (List.getElem?_eq_getElem hlt2)).more GW.out)
                    have hpd := HDP.out _ (List.getElem_mem hlt2)
                    have HC := hide (HI.out s.parts[j] (C j) wr (by omega) HPI.out)
                    have HB : Hid (soundS k s.parts[j] = false → res = false) := hide fun h => by
                      rw [HW.out, List.all_eq_false]
                      exact ⟨_, List.getElem_mem hlt2, by rw [h]; simp⟩
                    have HT : Hid (soundS k s.parts[j] = true → ∀ p ∈ s.parts.take (j + 1), soundS k p = true) := hide fun h p hp => by
                      rw [List.take_succ_eq_append_getElem hlt2] at hp
                      rcases List.mem_append.1 hp with h1 | h1
                      · exact GN.out p h1
                      · rw [List.mem_singleton.1 h1]; exact h
                    clear hc hr hl3 hpd
                    generalize s.parts[j] = p at *
                    generalize C j = D at *
                    cases hss : soundS k p
                    all_goals
                      have HSS := hide hss
                      rw [hss] at HC
                      clear hss
                      go_wp2_with (first | (refine wpList_load_mid rfl 47 _ rfl x (o + j * 3) rfl D _ HRW.out rfl rfl (by rw [HL3.out]; kernel_rfl) ?_) | fail)
                      refine HC.out.mono ?_
                      rintro e w1 ⟨rfl, hb1⟩
                      have KB := hide (GB.out.below hb1 GB.out.lt)
                      have KW := hide (GW.out.trans (hb1.mono GW.out.size))
                      clear hb1
                    · go_wp2
                      go_ret
                      exact ⟨ret_eq (by rw [HB.out HSS.out]; rfl), KW.out⟩
                    · go_wp2_with fail
                      exact ⟨⟨j + 1, by go_num, by omega, HT.out HSS.out, KB.out, KW.out⟩, by simp [intOf]; omega⟩
                  · have HE : Hid (res = true) := hide (by
                      rw [HW.out, List.all_eq_true]
                      intro p hp
                      exact GN.out p (by rw [List.take_of_length_le (by omega)]; exact hp))
                    go_wp2
                    go_ret
                    exact ⟨ret_eq (by rw [HE.out]; rfl), GW.out⟩
end Go.Proofs.Ytjjhjhjphhpeiaa

/- The plain law of the schemas: right by the program and by the document. Conditions: none. -/
namespace Go.Proofs.Ytjjhjhjphhpeiaa

theorem sLt_trans {a b c : Str} (h1 : sLt a b = true) (h2 : sLt b c = true) : sLt a c = true := by
  rw [sLt_iff, decide_eq_true_eq] at *
  exact List.lt_trans h1 h2
theorem sLt_irrefl (a : Str) : sLt a a = false := by
  rw [sLt_iff, decide_eq_false_iff_not]
  exact List.lt_irrefl a
theorem sLt_total {a b : Str} (h1 : sLt a b = false) (h2 : a ≠ b) : sLt b a = true := by
  rw [sLt_iff, decide_eq_false_iff_not] at h1
  rw [sLt_iff, decide_eq_true_eq]
  exact Classical.byContradiction fun h => h2 (List.le_antisymm (List.not_lt.1 h) (List.not_lt.1 h1))

/-- unlike each other, pair by pair. -/
theorem unlike_iff (l : List Str) : unlikeB l = true ↔ ∀ i, i < l.length → ∀ j, j < i → l.getD i [] ≠ l.getD j [] := by
  unfold unlikeB
  rw [List.all_eq_true]
  constructor
  · intro h i hi j hj e
    have := h i (List.mem_range.2 hi)
    simp only [Bool.not_eq_true', decide_eq_false_iff_not] at this
    refine this ?_
    rw [e]
    have hjl : j < l.length := by omega
    rw [show l.getD j [] = (l.take i)[j]'(by simp; omega) by simp [List.getD, hjl]]
    exact List.getElem_mem _
  · intro h i hi
    have hi' := List.mem_range.1 hi
    simp only [Bool.not_eq_true', decide_eq_false_iff_not]
    intro hm
    obtain ⟨j, hj, e⟩ := List.getElem_of_mem hm
    have hji : j < i := by simp at hj; omega
    refine h i hi' j hji ?_
    have hjl : j < l.length := by omega
    rw [← e]
    simp [List.getD, hjl]
theorem sorted_iff (l : List Str) : sortedB l = true ↔ ∀ i, i + 1 < l.length → sLt (l.getD (i + 1) []) (l.getD i []) = false := by
  unfold sortedB
  rw [List.all_eq_true]
  constructor
  · intro h i hi
    have := h i (List.mem_range.2 (by omega))
    simpa using this
  · intro h i hi
    have := List.mem_range.1 hi
    simpa using h i (by omega)
/-- Sorted and unlike: each ahead of each later one. -/
theorem rising_iff (l : List Str) : risingB l = true ↔ ∀ i, i < l.length → ∀ j, j < i → l.getD i [] ≠ l.getD j [] ∧ sLt (l.getD i []) (l.getD j []) = false := by
  unfold risingB
  rw [Bool.and_eq_true, unlike_iff, sorted_iff]
  constructor
  · rintro ⟨hs, hu⟩ i hi j hj
    refine ⟨hu i hi j hj, ?_⟩
    have key : ∀ d, ∀ j, j + d + 1 < l.length → sLt (l.getD j []) (l.getD (j + d + 1) []) = true := by
      intro d
      induction d with
      | zero =>
        intro j hj
        exact sLt_total (hs j (by omega)) (hu (j + 1) (by omega) j (by omega))
      | succ d ih =>
        intro j hj
        exact sLt_trans (ih j (by omega)) (sLt_total (hs (j + d + 1) (by omega)) (hu (j + d + 1 + 1) (by omega) (j + d + 1) (by omega)))
    have h1 := key (i - j - 1) j (by omega)
    rw [show j + (i - j - 1) + 1 = i by omega] at h1
    cases h2 : sLt (l.getD i []) (l.getD j [])
    · rfl
    · have := sLt_trans h1 h2
      rw [sLt_irrefl] at this
      cases this
  · intro h
    exact ⟨fun i hi => (h (i + 1) hi i (by omega)).2, fun i hi j hj => (h i hi j hj).1⟩

theorem namesB_iff (l : List Str) : namesB l = true ↔ l.length ≤ 8 ∧ ∀ i, i < l.length → nameB (l.getD i []) = true := by
  unfold namesB
  rw [Bool.and_eq_true, decide_eq_true_eq, List.all_eq_true]
  constructor
  · rintro ⟨h1, h2⟩
    exact ⟨h1, fun i hi => h2 _ (by simp [List.getD, hi])⟩
  · rintro ⟨h1, h2⟩
    refine ⟨h1, fun x hx => ?_⟩
    obtain ⟨i, hi, rfl⟩ := List.getElem_of_mem hx
    have := h2 i hi
    simpa [List.getD, hi] using this
theorem clash_f (kd : Int) (x y : Str) : clash kd x y = false ↔ x ≠ y ∧ (kd = 5 → sLt x y = false) := by
  unfold clash
  by_cases h5 : kd = 5
  · simp [h5]
  · simp [h5]
theorem words_iff (kd : Int) (l : List Str) : (List.range l.length).all (wordOk kd l) = true ↔ (∀ i, i < l.length → nameB (l.getD i []) = true) ∧ ∀ i, i < l.length → ∀ j, j < i → clash kd (l.getD i []) (l.getD j []) = false := by
  rw [List.all_eq_true]
  constructor
  · intro h
    refine ⟨fun i hi => ?_, fun i hi j hj => ?_⟩
    · have := h i (List.mem_range.2 hi)
      unfold wordOk at this
      exact (Bool.and_eq_true _ _ ▸ this).1
    · have := h i (List.mem_range.2 hi)
      unfold wordOk at this
      have h2 := List.all_eq_true.1 (Bool.and_eq_true _ _ ▸ this).2 j (List.mem_range.2 hj)
      simpa using h2
  · rintro ⟨h1, h2⟩ i hi
    have hi' := List.mem_range.1 hi
    unfold wordOk
    rw [h1 i hi', Bool.true_and, List.all_eq_true]
    intro j hj
    rw [h2 i hi' j (List.mem_range.1 hj)]
    rfl
/-- By itself: the program and the document agree. -/
theorem plain_here (s : DSch) : plainS s = hereS s := by
  rw [Bool.eq_iff_iff]
  unfold plainS hereS
  rw [Bool.and_eq_true, Bool.and_eq_true, Bool.not_eq_true', decide_eq_false_iff_not, decide_eq_true_eq, words_iff]
  generalize s.kind = kd
  generalize s.words = l
  generalize s.parts.length = np
  have nil : l.length = 0 → (∀ i, i < l.length → nameB (l.getD i []) = true) ∧ ∀ i, i < l.length → ∀ j, j < i → clash kd (l.getD i []) (l.getD j []) = false := fun h => ⟨fun i hi => by omega, fun i hi => by omega⟩
  by_cases h1 : kd = 1 ∨ kd = 2 ∨ kd = 3
  · rw [if_pos h1]
    simp only [Bool.and_eq_true, decide_eq_true_eq]
    have hw : wantS kd l.length = 0 := by unfold wantS; rw [if_neg (by omega), if_neg (by omega)]
    rw [hw]
    constructor
    · rintro ⟨a, b⟩; exact ⟨by unfold badHead; omega, b, nil a⟩
    · rintro ⟨a, b, _⟩; unfold badHead at a; exact ⟨by omega, b⟩
  · rw [if_neg h1]
    by_cases h4 : kd = 4
    · subst h4
      rw [if_pos rfl]
      simp only [Bool.and_eq_true, decide_eq_true_eq, namesB_iff, unlike_iff]
      have hw : wantS 4 l.length = 0 := by simp [wantS]
      rw [hw]
      constructor
      · rintro ⟨a, ⟨b1, b2⟩, c, d⟩
        exact ⟨by unfold badHead; omega, d, b2, fun i hi j hj => (clash_f _ _ _).2 ⟨c i hi j hj, fun h => by omega⟩⟩
      · rintro ⟨a, b, c, d⟩
        unfold badHead at a
        exact ⟨by omega, ⟨by omega, c⟩, fun i hi j hj => ((clash_f _ _ _).1 (d i hi j hj)).1, b⟩
    · rw [if_neg h4]
      by_cases h5 : kd = 5
      · subst h5
        rw [if_pos rfl]
        simp only [Bool.and_eq_true, decide_eq_true_eq, namesB_iff, rising_iff]
        have hw : wantS 5 l.length = l.length := by simp [wantS]
        rw [hw]
        constructor
        · rintro ⟨⟨b1, b2⟩, c, d⟩
          exact ⟨by unfold badHead; omega, d, b2, fun i hi j hj => (clash_f _ _ _).2 ⟨(c i hi j hj).1, fun _ => (c i hi j hj).2⟩⟩
        · rintro ⟨a, b, c, d⟩
          unfold badHead at a
          exact ⟨⟨by omega, c⟩, fun i hi j hj => ⟨((clash_f _ _ _).1 (d i hi j hj)).1, ((clash_f _ _ _).1 (d i hi j hj)).2 rfl⟩, b⟩
      · rw [if_neg h5]
        by_cases h6 : kd = 6
        · subst h6
          rw [if_pos rfl]
          simp only [Bool.and_eq_true, decide_eq_true_eq]
          have hw : wantS 6 l.length = 1 := by simp [wantS]
          rw [hw]
          constructor
          · rintro ⟨a, b⟩; exact ⟨by unfold badHead; omega, b, nil a⟩
          · rintro ⟨a, b, _⟩; unfold badHead at a; exact ⟨by omega, b⟩
        · rw [if_neg h6]
          constructor
          · intro h; cases h
          · rintro ⟨a, _⟩; unfold badHead at a; omega
theorem depths_all (l : List DSch) (k : Nat) : DSch.depths l ≤ k ↔ ∀ p ∈ l, p.depth ≤ k := by
  induction l with
  | nil => simp [DSch.depths]
  | cons x l ih =>
    simp only [DSch.depths, List.mem_cons, forall_eq_or_imp]
    rw [← ih]; omega
/-- The program's 'right' is the document's. -/
theorem right_sound (k : Nat) : ∀ (s : DSch) (m : Nat), s.depth ≤ m → rightS k s = (decide (s.depth ≤ k) && soundS m s) := by
  induction k with
  | zero => intro s m _; have := s.depth_pos; simp [rightS]; omega
  | succ k ih =>
    intro s m hm
    obtain ⟨m, rfl⟩ : ∃ n, m = n + 1 := ⟨m - 1, by have := s.depth_pos; omega⟩
    have hd := s.depth_eq
    rw [Bool.eq_iff_iff]
    simp only [rightS, soundS, Bool.and_eq_true, decide_eq_true_eq, plain_here, List.all_eq_true]
    have hall := depths_all s.parts
    constructor
    · rintro ⟨h1, h2⟩
      have h3 : ∀ p ∈ s.parts, p.depth ≤ k ∧ soundS m p = true := fun p hp => by
        have := h2 p hp
        rw [ih p m (by have := DSch.depth_part hp; omega)] at this
        simpa using this
      exact ⟨by have := (hall k).2 (fun p hp => (h3 p hp).1); omega, h1, fun p hp => (h3 p hp).2⟩
    · rintro ⟨h0, h1, h2⟩
      refine ⟨h1, fun p hp => ?_⟩
      rw [ih p m (by have := DSch.depth_part hp; omega), h2 p hp, Bool.and_true, decide_eq_true_eq]
      exact (hall k).1 (by omega) p hp
end Go.Proofs.Ytjjhjhjphhpeiaa

/- Longest common lists: reckoned from what is left, and from what is behind. Conditions: none. -/
namespace Go.Proofs.Ytjjhjhjphhpeiaa
open Go.RowKit
def lcs : List Nat → List Nat → Nat
  | [], _ => 0
  | _ :: _, [] => 0
  | x :: a, y :: b => max (max (lcs a (y :: b)) (lcs (x :: a) b)) (if x = y then 1 + lcs a b else 0)
termination_by a b => a.length + b.length
theorem lcs_nil (b : List Nat) : lcs [] b = 0 := by rw [lcs]
theorem lcs_nil' (a : List Nat) : lcs a [] = 0 := by cases a <;> rw [lcs]
theorem lcs_cons (x y : Nat) (a b : List Nat) : lcs (x :: a) (y :: b) = max (max (lcs a (y :: b)) (lcs (x :: a) b)) (if x = y then 1 + lcs a b else 0) := by rw [lcs]
theorem lcs_spec (n : Nat) : ∀ a b : List Nat, a.length + b.length ≤ n → (∃ l : List Nat, l.Sublist a ∧ l.Sublist b ∧ l.length = lcs a b) ∧ ∀ l : List Nat, l.Sublist a → l.Sublist b → l.length ≤ lcs a b := by
  induction n with
  | zero =>
    intro a b h
    obtain rfl : a = [] := List.eq_nil_of_length_eq_zero (by omega)
    rw [lcs_nil]
    exact ⟨⟨[], .slnil, List.nil_sublist b, rfl⟩, fun l h1 _ => by rw [List.sublist_nil.1 h1]; simp⟩
  | succ n ih =>
    intro a b h
    match a, b with
    | [], b =>
      rw [lcs_nil]
      exact ⟨⟨[], .slnil, List.nil_sublist b, rfl⟩, fun l h1 _ => by rw [List.sublist_nil.1 h1]; simp⟩
    | x :: a, [] =>
      rw [lcs_nil']
      exact ⟨⟨[], List.nil_sublist _, .slnil, rfl⟩, fun l _ h1 => by rw [List.sublist_nil.1 h1]; simp⟩
    | x :: a, y :: b =>
      simp only [List.length_cons] at h
      obtain ⟨⟨l1, a1, b1, e1⟩, u1⟩ := ih a (y :: b) (by simp only [List.length_cons]; omega)
      obtain ⟨⟨l2, a2, b2, e2⟩, u2⟩ := ih (x :: a) b (by simp only [List.length_cons]; omega)
      obtain ⟨⟨l3, a3, b3, e3⟩, u3⟩ := ih a b (by omega)
      rw [lcs_cons]
      constructor
      · by_cases hxy : x = y
        · subst hxy
          rw [if_pos rfl]
          by_cases hA : max (lcs a (x :: b)) (lcs (x :: a) b) ≤ 1 + lcs a b
          · exact ⟨x :: l3, a3.cons_cons x, b3.cons_cons x, by simp only [List.length_cons]; omega⟩
          · by_cases hB : lcs a (x :: b) ≤ lcs (x :: a) b
            · exact ⟨l2, a2, b2.cons x, by omega⟩
            · exact ⟨l1, a1.cons x, b1, by omega⟩
        · rw [if_neg hxy]
          by_cases hB : lcs a (y :: b) ≤ lcs (x :: a) b
          · exact ⟨l2, a2, b2.cons y, by omega⟩
          · exact ⟨l1, a1.cons x, b1, by omega⟩
      · intro l ha hb
        cases ha with
        | cons _ ha => have := u1 l ha hb; omega
        | cons_cons _ ha =>
          cases hb with
          | cons _ hb => have := u2 _ (ha.cons_cons x) hb; omega
          | cons_cons _ hb =>
            rw [if_pos rfl]
            have := u3 _ ha hb
            simp only [List.length_cons]
            omega
theorem lcs_le {a b l : List Nat} (h1 : l.Sublist a) (h2 : l.Sublist b) : l.length ≤ lcs a b := (lcs_spec _ a b (Nat.le_refl _)).2 l h1 h2
theorem lcs_ex (a b : List Nat) : ∃ l : List Nat, l.Sublist a ∧ l.Sublist b ∧ l.length = lcs a b := (lcs_spec _ a b (Nat.le_refl _)).1
theorem lcs_rev_le (a b : List Nat) : lcs a b ≤ lcs a.reverse b.reverse := by
  obtain ⟨l, h1, h2, h3⟩ := lcs_ex a b
  have := lcs_le h1.reverse h2.reverse
  rwa [List.length_reverse, h3] at this
theorem lcs_rev (a b : List Nat) : lcs a.reverse b.reverse = lcs a b := by
  have h1 := lcs_rev_le a b
  have h2 := lcs_rev_le a.reverse b.reverse
  rw [List.reverse_reverse, List.reverse_reverse] at h2
  omega
theorem lcs_self (a : List Nat) : lcs a a = a.length := by
  have h1 := lcs_le (List.Sublist.refl a) (List.Sublist.refl a)
  obtain ⟨l, h2, _, h3⟩ := lcs_ex a a
  have := h2.length_le
  omega
theorem lcs_bound (a b : List Nat) : lcs a b ≤ a.length ∧ lcs a b ≤ b.length := by
  obtain ⟨l, h1, h2, h3⟩ := lcs_ex a b
  have := h1.length_le
  have := h2.length_le
  omega
theorem lcs_eq_step (x : Nat) (a b : List Nat) : lcs (x :: a) (x :: b) = lcs a b + 1 := by
  have h1 : lcs a b + 1 ≤ lcs (x :: a) (x :: b) := by
    obtain ⟨l, h1, h2, h3⟩ := lcs_ex a b
    have := lcs_le (h1.cons_cons x) (h2.cons_cons x)
    simp only [List.length_cons] at this
    omega
  have h2 : lcs (x :: a) (x :: b) ≤ lcs a b + 1 := by
    obtain ⟨l, h1, h2, h3⟩ := lcs_ex (x :: a) (x :: b)
    have t1 := h1.tail
    have t2 := h2.tail
    have := lcs_le t1 t2
    simp only [List.length_tail, List.tail_cons] at this
    omega
  omega
theorem lcs_ne_step {x y : Nat} (h : x ≠ y) (a b : List Nat) : lcs (x :: a) (y :: b) = max (lcs a (y :: b)) (lcs (x :: a) b) := by
  rw [lcs_cons, if_neg h]; omega
/-- What the program's row holds. -/
def preL (a b : List Nat) (i k : Nat) : Nat := lcs (a.take i).reverse (b.take k).reverse
theorem preL_zero (a b : List Nat) (k : Nat) : preL a b 0 k = 0 := by simp only [preL, List.take_zero, List.reverse_nil, lcs_nil]
theorem preL_zero' (a b : List Nat) (i : Nat) : preL a b i 0 = 0 := by simp only [preL, List.take_zero, List.reverse_nil, lcs_nil']
theorem rev_take {l : List Nat} {i : Nat} (h : i < l.length) : (l.take (i + 1)).reverse = l[i] :: (l.take i).reverse := by
  rw [List.take_succ_eq_append_getElem h, List.reverse_append]; rfl
theorem preL_step {a b : List Nat} {i k : Nat} (hi : i < a.length) (hk : k < b.length) : preL a b (i + 1) (k + 1) = if a[i] = b[k] then preL a b i k + 1 else max (preL a b i (k + 1)) (preL a b (i + 1) k) := by
  simp only [preL, rev_take hi, rev_take hk]
  split
  · rename_i h; rw [h, lcs_eq_step]
  · rename_i h; rw [lcs_ne_step h]
theorem preL_all (a b : List Nat) : preL a b a.length b.length = lcs a b := by
  rw [preL, List.take_length, List.take_length, lcs_rev]
/-- What the document's table holds. -/
def sufL (a b : List Nat) (i k : Nat) : Nat := lcs (a.drop i) (b.drop k)
theorem sufL_end {a b : List Nat} {i k : Nat} (h : a.length ≤ i ∨ b.length ≤ k) : sufL a b i k = 0 := by
  unfold sufL
  rcases h with h | h
  · rw [List.drop_of_length_le h, lcs_nil]
  · rw [List.drop_of_length_le h, lcs_nil']
theorem sufL_step {a b : List Nat} {i k : Nat} (hi : i < a.length) (hk : k < b.length) : sufL a b i k = max (max (sufL a b (i + 1) k) (sufL a b i (k + 1))) (if a[i] = b[k] then 1 + sufL a b (i + 1) (k + 1) else 0) := by
  unfold sufL
  rw [List.drop_eq_getElem_cons hi, List.drop_eq_getElem_cons hk, lcs_cons]
theorem sufL_all (a b : List Nat) : sufL a b 0 0 = lcs a b := by simp [sufL]
end Go.Proofs.Ytjjhjhjphhpeiaa

/- Schemas, walked: the document's Same. Conditions: none. -/
namespace Go.Proofs.Ytjjhjhjphhpeiaa
open Go.RowKit

end Go.Proofs.Ytjjhjhjphhpeiaa

/- Values, walked: the document's Same. Conditions: none. -/
namespace Go.Proofs.Ytjjhjhjphhpeiaa
open Go.RowKit

set_option maxHeartbeats 4000000 in
set_option maxRecDepth 20000 in
theorem refValSame_calls (k : Nat) : ∀ (a b : DVal) (cs ds : List Value) (w : World), a.depth ≤ k → IsVal w (· < w.heap.size) a cs → IsVal w (· < w.heap.size) b ds →
    Calls Try.prog 14 #[.agg cs.toArray, .agg ds.toArray] w (Gives (.bool (eqB a b)) w) := by
  induction k with
  | zero => intro a b cs ds w h; have := a.depth_pos; omega
  | succ k ih =>
    intro a b cs ds w hk ha hb
    obtain ⟨hk1, hki⟩ := ha.kind_
    obtain ⟨hk2, hki2⟩ := hb.kind_
    obtain ⟨hn1, hni⟩ := ha.n_
    obtain ⟨hn2, hni2⟩ := hb.n_
    obtain ⟨hs1, hsl⟩ := ha.s_
    obtain ⟨hs2, hsl2⟩ := hb.s_
    obtain ⟨Aw, cw, hw1, hwr, hwz, hwc, hwm⟩ := ha.names_
    obtain ⟨Aw2, cw2, hw2, hwr2, hwz2, hwc2, hwm2⟩ := hb.names_
    obtain ⟨Ai, ci, hi1, hir, hiz, hic, him⟩ := ha.ids_
    obtain ⟨Ai2, ci2, hi2, hir2, hiz2, hic2, him2⟩ := hb.ids_
    obtain ⟨Ap, cp, C, hp1, hpc, hpm, hP, hA⟩ := ha.partsF
    obtain ⟨Ap2, cp2, C2, hp2, hpc2, hpm2, hP2, hA2⟩ := hb.partsF
    have HW0 := hide (((Below.refl w.heap.size w).alloc (Nat.le_refl _) (.cells cs.toArray 28)).alloc (by simp) (.cells ds.toArray 28))
    have HX2 := hide ((Blk.new w 28 cs.toArray).alloc (.cells ds.toArray 28))
    have HX3 := hide (Blk.new2 w (.cells cs.toArray 28) 28 ds.toArray)
    have HWR := hide (And.intro hwr hwr2)
    have HIR := hide (And.intro hir hir2)
    have HPP := hide (And.intro hA hA2)
    have HIS := hide (And.intro hP hP2)
    have HIU := hide (And.intro hiz hiz2)
    have HI := hide ih
    have HDP := hide (fun p (h : p ∈ a.parts) => DVal.depth_part h)
    clear ih ha hb hA hA2 hP hP2 hwr hwr2 hwz hwz2 hir hir2 hiz hiz2
    by_cases h1 : a.kind = b.kind
    case neg =>
      have hkk : (a.kind != b.kind) = true := by simp; omega
      have HF : Hid (eqB a b = false) := hide (eqB_false fun e => h1 (by rw [e]))
      clear h1
      go_enter Try.func14, Try.ntmps14
      go_wp2
      go_ret
      exact ⟨ret_eq (by rw [HF.out]; rfl), HW0.out⟩
    have hne1 : (a.kind != b.kind) = false := by simp [h1]
    have H1 := hide h1
    clear h1
    by_cases h2 : a.n = b.n
    case neg =>
      have hkk : (a.n != b.n) = true := by simp; omega
      have HF : Hid (eqB a b = false) := hide (eqB_false fun e => h2 (by rw [e]))
      clear h2
      go_enter Try.func14, Try.ntmps14
      go_wp2
      go_ret
      exact ⟨ret_eq (by rw [HF.out]; rfl), HW0.out⟩
    have hne2 : (a.n != b.n) = false := by simp [h2]
    have H2 := hide h2
    clear h2
    by_cases h3 : a.s = b.s
    case neg =>
      have hkk : (a.s != b.s) = true := by simpa using h3
      have hkk2 : (a.s == b.s) = false := by simpa using h3
      have HF : Hid (eqB a b = false) := hide (eqB_false fun e => h3 (by rw [e]))
      clear h3
      go_enter Try.func14, Try.ntmps14
      go_wp2
      go_ret
      exact ⟨ret_eq (by rw [HF.out]; rfl), HW0.out⟩
    have hne3 : (a.s != b.s) = false := by simp [h3]
    have H3 := hide h3
    clear h3
    by_cases h4 : a.names.length = b.names.length
    case neg =>
      have hkk : ((a.names.length : Int) != (b.names.length : Int)) = true := by simp; omega
      have HF : Hid (eqB a b = false) := hide (eqB_false fun e => h4 (by rw [e]))
      clear h4
      go_enter Try.func14, Try.ntmps14
      go_wp2
      go_ret
      exact ⟨ret_eq (by rw [HF.out]; rfl), HW0.out⟩
    have hne4 : ((a.names.length : Int) != (b.names.length : Int)) = false := by simp [h4]
    have H4 := hide h4
    clear h4
    by_cases h5 : a.ids.length = b.ids.length
    case neg =>
      have hkk : ((a.ids.length : Int) != (b.ids.length : Int)) = true := by simp; omega
      have HF : Hid (eqB a b = false) := hide (eqB_false fun e => h5 (by rw [e]))
      clear h5
      go_enter Try.func14, Try.ntmps14
      go_wp2
      go_ret
      exact ⟨ret_eq (by rw [HF.out]; rfl), HW0.out⟩
    have hne5 : ((a.ids.length : Int) != (b.ids.length : Int)) = false := by simp [h5]
    have H5 := hide h5
    clear h5
    by_cases h6 : a.parts.length = b.parts.length
    case neg =>
      have hkk : ((a.parts.length : Int) != (b.parts.length : Int)) = true := by simp; omega
      have HF : Hid (eqB a b = false) := hide (eqB_false fun e => h6 (by rw [e]))
      clear h6
      go_enter Try.func14, Try.ntmps14
      go_wp2
      go_ret
      exact ⟨ret_eq (by rw [HF.out]; rfl), HW0.out⟩
    have hne6 : ((a.parts.length : Int) != (b.parts.length : Int)) = false := by simp [h6]
    have H6 := hide h6
    clear h6
    go_enter Try.func14, Try.ntmps14
    go_wp2_with fail
    go_loopw [5] (fun i wr => ∃ (j : Nat), i = .int .i64 j ∧ j ≤ a.names.length ∧ a.names.take j = b.names.take j ∧ Blk wr w.heap.size 28 cs.toArray ∧ Blk wr (w.heap.size + 1) 28 ds.toArray ∧ Below w.heap.size w wr) (fun i _ => a.names.length - (intOf i).toNat)
    case atStart => exact ⟨0, rfl, Nat.zero_le _, by simp, HX2.out, HX3.out, HW0.out⟩
    case round =>
      clear HX2 HX3 HW0
      obtain ⟨j, rfl, hj, heq, hb2, hb3, hw⟩ := hrel
      have GE := hide heq
      have G2 := hide hb2
      have G3 := hide hb3
      have GW := hide hw
      clear heq hb2 hb3 hw
      obtain ⟨wo, rfl⟩ : ∃ wo : World, wo = wr := ⟨_, rfl⟩
      have c2 : wo.cell? ⟨w.heap.size, 3, none⟩ = some (.slice Aw a.names.length cw) := by rw [G2.out.cell]; simpa using hw1
      have c3 : wo.cell? ⟨w.heap.size + 1, 3, none⟩ = some (.slice Aw2 b.names.length cw2) := by rw [G3.out.cell]; simpa using hw2
      by_cases hlt : j < a.names.length
      · have hlt2 : j < b.names.length := by rw [← H4.out]; exact hlt
        obtain ⟨x, o, rfl, hx, hc1⟩ := HWR.out.1.at_ hlt
        obtain ⟨x2, o2, rfl, hx2, hc2⟩ := HWR.out.2.at_ hlt2
        have d1 : wo.cell? ⟨x, o + j, none⟩ = some (sv a.names[j]) := (GW.out.cell (p := ⟨x, o + j, none⟩) hx).trans hc1
        have d2 : wo.cell? ⟨x2, o2 + j, none⟩ = some (sv b.names[j]) := (GW.out.cell (p := ⟨x2, o2 + j, none⟩) hx2).trans hc2
        have HT : Hid (a.names[j] = b.names[j] → a.names.take (j + 1) = b.names.take (j + 1)) := hide fun e => by rw [List.take_succ_eq_append_getElem hlt, List.take_succ_eq_append_getElem hlt2, GE.out, e]
        have HD : Hid (a.names[j] ≠ b.names[j] → eqB a b = false) := hide fun e => eqB_false fun h => e (by simp only [h])
        have j1 : (0 : Int) ≤ (j : Int) := by omega
        have j2 : (j : Int) < (a.names.length : Int) := by omega
        have j3 : (j : Int) < (b.names.length : Int) := by omega
        clear hc1 hc2
        generalize a.names[j] = s1 at *
        generalize b.names[j] = s2 at *
        cases hss : (s1 == s2)
        · have HSS := hide hss
          go_wp2_with fail
          go_quiet (fail)
          go_wp2
          go_ret
          exact ⟨ret_eq (by rw [HD.out (by simpa using HSS.out)]; rfl), below_drewN GW.out _⟩
        · have HSS := hide hss
          go_wp2_with fail
          go_quiet (fail)
          go_wp2_with fail
          exact ⟨⟨j + 1, by go_num, by omega, HT.out (by simpa using HSS.out), G2.out.drewN _, G3.out.drewN _, below_drewN GW.out _⟩, by simp [intOf]; omega⟩
      · have HEN : Hid (a.names = b.names) := hide (by
          have := GE.out
          rw [List.take_of_length_le (by omega), List.take_of_length_le (by rw [← H4.out]; omega)] at this
          exact this)
        clear GE
        have e2 : wo.cell? ⟨w.heap.size, 4, none⟩ = some (.slice Ai a.ids.length ci) := by rw [G2.out.cell]; simpa using hi1
        have e3 : wo.cell? ⟨w.heap.size + 1, 4, none⟩ = some (.slice Ai2 b.ids.length ci2) := by rw [G3.out.cell]; simpa using hi2
        go_wp2_with fail
        go_loopw [6] (fun i wr => ∃ (j : Nat), i = .int .i64 j ∧ j ≤ a.ids.length ∧ a.ids.take j = b.ids.take j ∧ Blk wr w.heap.size 28 cs.toArray ∧ Blk wr (w.heap.size + 1) 28 ds.toArray ∧ Below w.heap.size w wr) (fun i _ => a.ids.length - (intOf i).toNat)
        case atStart => exact ⟨0, rfl, Nat.zero_le _, by simp, G2.out, G3.out, GW.out⟩
        case round =>
          clear c2 c3 e2 e3 G2 G3 GW
          obtain ⟨j, rfl, hj, heq, hb2, hb3, hw⟩ := hrel
          have GE := hide heq
          have G2 := hide hb2
          have G3 := hide hb3
          have GW := hide hw
          clear heq hb2 hb3 hw
          obtain ⟨wo, rfl⟩ : ∃ wo : World, wo = wr := ⟨_, rfl⟩
          have c2 : wo.cell? ⟨w.heap.size, 4, none⟩ = some (.slice Ai a.ids.length ci) := by rw [G2.out.cell]; simpa using hi1
          have c3 : wo.cell? ⟨w.heap.size + 1, 4, none⟩ = some (.slice Ai2 b.ids.length ci2) := by rw [G3.out.cell]; simpa using hi2
          by_cases hlt : j < a.ids.length
          · have hlt2 : j < b.ids.length := by rw [← H5.out]; exact hlt
            obtain ⟨x, o, rfl, hx, hc1⟩ := HIR.out.1.at_ hlt
            obtain ⟨x2, o2, rfl, hx2, hc2⟩ := HIR.out.2.at_ hlt2
            have d1 : wo.cell? ⟨x, o + j, none⟩ = some (uv a.ids[j]) := (GW.out.cell (p := ⟨x, o + j, none⟩) hx).trans hc1
            have d2 : wo.cell? ⟨x2, o2 + j, none⟩ = some (uv b.ids[j]) := (GW.out.cell (p := ⟨x2, o2 + j, none⟩) hx2).trans hc2
            have HT : Hid (a.ids[j] = b.ids[j] → a.ids.take (j + 1) = b.ids.take (j + 1)) := hide fun e => by rw [List.take_succ_eq_append_getElem hlt, List.take_succ_eq_append_getElem hlt2, GE.out, e]
            have HD : Hid (a.ids[j] ≠ b.ids[j] → eqB a b = false) := hide fun e => eqB_false fun h => e (by simp only [h])
            have j1 : (0 : Int) ≤ (j : Int) := by omega
            have j2 : (j : Int) < (a.ids.length : Int) := by omega
            have j3 : (j : Int) < (b.ids.length : Int) := by omega
            clear hc1 hc2
            generalize a.ids[j] = s1 at *
            generalize b.ids[j] = s2 at *
            unfold uv at d1 d2
            by_cases hss : s1 = s2
            · have hsb : ((s1 : Int) != (s2 : Int)) = false := by simp [hss]
              have HSS := hide hss
              clear hss
              go_wp2_with fail
              go_quiet (fail)
              go_wp2_with fail
              exact ⟨⟨j + 1, by go_num, by omega, HT.out HSS.out, G2.out.drewN _, G3.out.drewN _, below_drewN GW.out _⟩, by simp [intOf]; omega⟩
            · have hsb : ((s1 : Int) != (s2 : Int)) = true := by simp; omega
              have HSS := hide hss
              clear hss
              go_wp2_with fail
              go_quiet (fail)
              go_wp2
              go_ret
              exact ⟨ret_eq (by rw [HD.out HSS.out]; rfl), below_drewN GW.out _⟩
          · have HEI : Hid (a.ids = b.ids) := hide (by
              have := GE.out
              rw [List.take_of_length_le (by omega), List.take_of_length_le (by rw [← H5.out]; omega)] at this
              exact this)
            clear GE
            have e2 : wo.cell? ⟨w.heap.size, 5, none⟩ = some (.slice Ap a.parts.length cp) := by rw [G2.out.cell]; simpa using hp1
            have e3 : wo.cell? ⟨w.heap.size + 1, 5, none⟩ = some (.slice Ap2 b.parts.length cp2) := by rw [G3.out.cell]; simpa using hp2
            go_wp2_with fail
            go_loopw [7] (fun i wr => ∃ (j : Nat), i = .int .i64 j ∧ j ≤ a.parts.length ∧ a.parts.take j = b.parts.take j ∧ Blk wr w.heap.size 28 cs.toArray ∧ Blk wr (w.heap.size + 1) 28 ds.toArray ∧ Below w.heap.size w wr) (fun i _ => a.parts.length - (intOf i).toNat)
            case atStart => exact ⟨0, rfl, Nat.zero_le _, by simp, G2.out, G3.out, GW.out⟩
            case round =>
              clear c2 c3 e2 e3 G2 G3 GW
              obtain ⟨j, rfl, hj, heq, hb2, hb3, hw⟩ := hrel
              have GE := hide heq
              have G2 := hide hb2
              have G3 := hide hb3
              have GW := hide hw
              clear heq hb2 hb3 hw
              obtain ⟨wo, rfl⟩ : ∃ wo : World, wo = wr := ⟨_, rfl⟩
              have c2 : wo.cell? ⟨w.heap.size, 5, none⟩ = some (.slice Ap a.parts.length cp) := by rw [G2.out.cell]; simpa using hp1
              have c3 : wo.cell? ⟨w.heap.size + 1, 5, none⟩ = some (.slice Ap2 b.parts.length cp2) := by rw [G3.out.cell]; simpa using hp2
              by_cases hlt : j < a.parts.length
              · have hlt2 : j < b.parts.length := by rw [← H6.out]; exact hlt
                obtain ⟨x, o, rfl, hx, hc1⟩ := HPP.out.1 (by omega)
                obtain ⟨x2, o2, rfl, hx2, hc2⟩ := HPP.out.2 (by omega)
                obtain ⟨hl1, hr1⟩ := hc1 j hlt
                obtain ⟨hl2, hr2⟩ := hc2 j hlt2
                have GS := hide (List.getElem?_eq_getElem hlt)
                have GS2 := hide (List.getElem?_eq_getElem hlt2)
                have HP1 := hide (HIS.out.1 j _ GS.out)
                have HP2 := hide (HIS.out.2 j _ GS2.out)
                have HRW : Hid (∀ W, Below wo.heap.size wo W → W.rangeAt x (o + j * 6) (C j)) := hide fun W hW q v hv => (hW.cell (p := ⟨x, o + j * 6 + q, none⟩) (Nat.lt_of_lt_of_le hx GW.out.size)).trans ((GW.out.cell (p := ⟨x, o + j * 6 + q, none⟩) hx).trans (hr1 q v hv))
                have HRW2 : Hid (∀ W, Below wo.heap.size wo W → W.rangeAt x2 (o2 + j * 6) (C2 j)) := hide fun W hW q v hv => (hW.cell (p := ⟨x2, o2 + j * 6 + q, none⟩) (Nat.lt_of_lt_of_le hx2 GW.out.size)).trans ((GW.out.cell (p := ⟨x2, o2 + j * 6 + q, none⟩) hx2).trans (hr2 q v hv))
                have hpd := HDP.out _ (List.getElem_mem hlt)
                have HC := hide (fun (W : World) (hW : Below wo.heap.size wo W) => HI.out a.parts[j] b.parts[j] (C j) (C2 j) W (by omega) (HP1.out.more (GW.out.trans (hW.mono GW.out.size))) (HP2.out.more (GW.out.trans (hW.mono GW.out.size))))
                have HT : Hid (a.parts[j] = b.parts[j] → a.parts.take (j + 1) = b.parts.take (j + 1)) := hide fun e => by rw [List.take_succ_eq_append_getElem hlt, List.take_succ_eq_append_getElem hlt2, GE.out, e]
                have HD : Hid (a.parts[j] ≠ b.parts[j] → eqB a b = false) := hide fun e => by
                  refine eqB_false fun h => e ?_
                  simp only [h]
                have hi1 : (Try.prog.info? 28).map (·.size) = some (C j).length := by rw [hl1]; kernel_rfl
                have hi2 : (Try.prog.info? 28).map (·.size) = some (C2 j).length := by rw [hl2]; kernel_rfl
                have hu := Try.underlying28
                have j1 : (0 : Int) ≤ (j : Int) := by omega
                have j2 : (j : Int) < (a.parts.length : Int) := by omega
                have j3 : (j : Int) < (b.parts.length : Int) := by omega
                clear hc1 hc2 hr1 hr2 HP1 HP2 GS GS2
                generalize a.parts[j] = s1 at *
                generalize b.parts[j] = s2 at *
                generalize C j = e1 at *
                generalize C2 j = e2 at *
                cases hss : eqB s1 s2
                all_goals
                  have HSS := hide hss
                  rw [hss] at HC
                  clear hss
                  have HC2c := hide (And.intro c2 c3)
                  go_wp2_with fail
                  refine wp_region_held_drew (S := fun w' => Below wo.heap.size wo w') (by kernel_rfl) (Below.refl _ _).drew (fun hHeld => ?_)
                  (refine takeH (i := 0) (v := .pointer (some ⟨w.heap.size, 5, none⟩)) rfl rfl (by kernel_rfl) (by kernel_rfl) (by kernel_rfl) (fun _ _ _ h => h) (by rfl) (fun wz hSw => by go_simp) hHeld ?_; simp only [Act.put, List.setIfInBounds_toArray, List.set_cons_zero, List.set_cons_succ])
                  (refine takeH (i := 1) (v := .slice (some ⟨x, o, none⟩) a.parts.length cp) rfl rfl (by kernel_rfl) (by kernel_rfl) (by kernel_rfl) (fun _ _ _ h => h) (by rfl) (fun wz hSw => by have hcx := (hSw.cell (p := ⟨w.heap.size, 5, none⟩) G2.out.lt).trans HC2c.out.1; go_simp) hHeld ?_; simp only [Act.put, List.setIfInBounds_toArray, List.set_cons_zero, List.set_cons_succ])
                  (refine takeH (i := 2) (v := .int .i64 j) rfl rfl (by kernel_rfl) (by kernel_rfl) (by kernel_rfl) (fun _ _ _ h => h) (by rfl) (fun wz hSw => by go_simp) hHeld ?_; simp only [Act.put, List.setIfInBounds_toArray, List.set_cons_zero, List.set_cons_succ])
                  (refine takeH (i := 3) (v := .pointer (some ⟨x, o + j * 6, none⟩)) rfl rfl (by kernel_rfl) (by kernel_rfl) (by kernel_rfl) (fun _ _ _ h => h) (by rfl) (fun wz hSw => by go_simp) hHeld ?_; simp only [Act.put, List.setIfInBounds_toArray, List.set_cons_zero, List.set_cons_succ])
                  (refine takeH (i := 4) (v := .agg (e1).toArray) rfl rfl (by kernel_rfl) (by kernel_rfl) (by kernel_rfl) (fun _ _ _ h => h) (by rfl) (fun wz hw => load_exec 28 (.tmp 100) rfl (x) (o + j * 6) rfl (e1) _ (HRW.out _ hw) hu rfl hi1) hHeld ?_; simp only [Act.put, List.setIfInBounds_toArray, List.set_cons_zero, List.set_cons_succ])
                  (refine takeH (i := 5) (v := .pointer (some ⟨w.heap.size + 1, 5, none⟩)) rfl rfl (by kernel_rfl) (by kernel_rfl) (by kernel_rfl) (fun _ _ _ h => h) (by rfl) (fun wz hSw => by go_simp) hHeld ?_; simp only [Act.put, List.setIfInBounds_toArray, List.set_cons_zero, List.set_cons_succ])
                  (refine takeH (i := 6) (v := .slice (some ⟨x2, o2, none⟩) b.parts.length cp2) rfl rfl (by kernel_rfl) (by kernel_rfl) (by kernel_rfl) (fun _ _ _ h => h) (by rfl) (fun wz hSw => by have hcx := (hSw.cell (p := ⟨w.heap.size + 1, 5, none⟩) G3.out.lt).trans HC2c.out.2; go_simp) hHeld ?_; simp only [Act.put, List.setIfInBounds_toArray, List.set_cons_zero, List.set_cons_succ])
                  (refine takeH (i := 7) (v := .int .i64 j) rfl rfl (by kernel_rfl) (by kernel_rfl) (by kernel_rfl) (fun _ _ _ h => h) (by rfl) (fun wz hSw => by go_simp) hHeld ?_; simp only [Act.put, List.setIfInBounds_toArray, List.set_cons_zero, List.set_cons_succ])
                  (refine takeH (i := 8) (v := .pointer (some ⟨x2, o2 + j * 6, none⟩)) rfl rfl (by kernel_rfl) (by kernel_rfl) (by kernel_rfl) (fun _ _ _ h => h) (by rfl) (fun wz hSw => by go_simp) hHeld ?_; simp only [Act.put, List.setIfInBounds_toArray, List.set_cons_zero, List.set_cons_succ])
                  (refine takeH (i := 9) (v := .agg (e2).toArray) rfl rfl (by kernel_rfl) (by kernel_rfl) (by kernel_rfl) (fun _ _ _ h => h) (by rfl) (fun wz hw => load_exec 28 (.tmp 105) rfl (x2) (o2 + j * 6) rfl (e2) _ (HRW2.out _ hw) hu rfl hi2) hHeld ?_; simp only [Act.put, List.setIfInBounds_toArray, List.set_cons_zero, List.set_cons_succ])
                  (refine oneH (i := 10) rfl (by kernel_rfl) (fun K hK => ?_); go_simp; refine (HC.out _ hHeld).mono ?_; rintro e w1 ⟨rfl, hb1⟩; have hq := hHeld.trans (hb1.mono hHeld.size); refine hK.out _ _ (hq) (fun hHeld => ?_); clear hK K)
                  (refine oneH (i := 11) rfl (by kernel_rfl) (fun K hK => ?_); go_simp; refine hK.out _ _ (hq) (fun hHeld => ?_); clear hK K)
                  refine wpAnyH_done (by kernel_rfl) ?_ _
                  have K2 := hide (G2.out.below hq G2.out.lt)
                  have K3 := hide (G3.out.below hq G3.out.lt)
                  have KW := hide (GW.out.trans (hq.mono GW.out.size))
                  clear hHeld hb1 hq hu hi1 hi2
                · go_wp2
                  go_ret
                  exact ⟨ret_eq (by rw [HD.out (fun e => by rw [eqB_true e] at HSS; cases HSS.out)]; rfl), KW.out⟩
                · go_wp2_with fail
                  exact ⟨⟨j + 1, by go_num, by omega, HT.out (eqB_iff.1 HSS.out), K2.out, K3.out, KW.out⟩, by simp [intOf]; omega⟩
              · have HE : Hid (eqB a b = true) := hide (by
                  have := GE.out
                  rw [List.take_of_length_le (by omega), List.take_of_length_le (by rw [← H6.out]; omega)] at this
                  exact eqB_true ((DVal.ext_iff' a b).2 ⟨H1.out, H2.out, H3.out, HEN.out, HEI.out, this⟩))
                go_wp2
                go_ret
                exact ⟨ret_eq (by rw [HE.out]; rfl), GW.out⟩
end Go.Proofs.Ytjjhjhjphhpeiaa
