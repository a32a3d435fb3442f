/- Names: value.Name, and the document's own. Conditions: none. -/
import Derived.Lib.OthersKept
import Derived.Lib.TrimU
import Derived.Deep.LoopGhost
import Derived.Test.YtpnjkebjdclkfaaStrA
namespace Go.Proofs.Ytpnjkebjdclkfaa
open Go.RowKit

def nameByte (c : Nat) : Bool := decide ((97 ≤ c ∧ c ≤ 122) ∨ (48 ≤ c ∧ c ≤ 57) ∨ c = 95)
def nameB (s : Str) : Bool := (s.all fun c => nameByte c.toNat) && decide (1 ≤ s.length ∧ s.length ≤ 12)

theorem nameByte_true {c : Nat} (h : (97 ≤ c ∧ c ≤ 122) ∨ (48 ≤ c ∧ c ≤ 57) ∨ c = 95) : nameByte c = true := decide_eq_true h
theorem nameByte_false {c : Nat} (h : ¬ ((97 ≤ c ∧ c ≤ 122) ∨ (48 ≤ c ∧ c ≤ 57) ∨ c = 95)) : nameByte c = false := decide_eq_false h

set_option maxHeartbeats 1000000 in
theorem nameOther_calls (R : Nat) (w : World) (hR : R ≤ 1114111) : Calls Try.prog 148 #[.int .i32 (R : Int)] w (fun e w' => e = .returned (.bool (!nameByte R)) ∧ w = w') := by
  have key : R < 48 ∨ (48 ≤ R ∧ R ≤ 57) ∨ (57 < R ∧ R < 95) ∨ (95 ≤ R ∧ R ≤ 95) ∨ (96 ≤ R ∧ R ≤ 96) ∨ (97 ≤ R ∧ R ≤ 122) ∨ 122 < R := by omega
  rcases key with h | h | h | h | h | h | h
  all_goals
    first
      | (have hT : Hid (nameByte _ = true) := hide (nameByte_true (c := R) (by omega)))
      | (have hT : Hid (nameByte _ = false) := hide (nameByte_false (c := R) (by omega)))
    first | (have hb : ((R : Int) == 95) = false := by simp; omega) | (have hb : ((R : Int) == 95) = true := by simp; omega)
    go_enter Try.func148, Try.ntmps148
    go_wp2
    go_ret
    exact ⟨ret_eq (by rw [hT.out]; first | rfl | (simp; omega)), rfl⟩

theorem get_str (s : Str) (i : Nat) (h : i < s.length) : (strB s).get! i = s[i] := by
  simp [strB, ByteArray.get!, h]
theorem decode_name (s : Str) (i : Nat) (h : i < s.length) : (nameByte (Utf8.decode (strB s) i).1 = nameByte s[i].toNat) ∧ (nameByte s[i].toNat = true → (Utf8.decode (strB s) i).2 = 1) := by
  have hg : (strB s).get! (i + 0) = s[i] := get_str s i h
  unfold Utf8.decode
  simp only [hg]
  by_cases h0 : s[i].toNat < 128
  · rw [if_pos h0]; exact ⟨rfl, fun _ => rfl⟩
  · rw [if_neg h0]
    have hn : nameByte s[i].toNat = false := nameByte_false (by omega)
    refine ⟨?_, fun h => by rw [hn] at h; cases h⟩
    rw [hn]
    split
    · split
      · exact nameByte_false (by omega)
      · exact nameByte_false (by unfold Utf8.runeError; omega)
    · split
      · split
        · rename_i hc
          simp only [Bool.and_eq_true, decide_eq_true_eq] at hc
          exact nameByte_false (by omega)
        · exact nameByte_false (by unfold Utf8.runeError; omega)
      · split
        · split
          · rename_i hc
            simp only [Bool.and_eq_true, decide_eq_true_eq] at hc
            exact nameByte_false (by omega)
          · exact nameByte_false (by unfold Utf8.runeError; omega)
        · exact nameByte_false (by unfold Utf8.runeError; omega)

/-- The first one that is no sign of a name: below 0 where there is none. -/
def OtherPost (s : Str) (w : World) (e : Ending) (w' : World) : Prop := (∃ z : Int, e = .returned (.int .i64 z) ∧ decide (z < 0) = s.all (fun c => nameByte c.toNat)) ∧ Below w.heap.size w w'
set_option maxHeartbeats 2000000 in
set_option maxRecDepth 20000 in
theorem nameIndex_calls (s : Str) (w : World) (hs : s.length ≤ maxLen) :
    Calls Try.prog 154 #[sv s, .func (.func 148) #[] #[], .bool true] w (OtherPost s w) := by
  unfold maxLen at hs
  have hKs : ∀ (x : Array Value) W, (callFunc 148 x).run Try.prog W = .ok (.enter 148 x) W := fun _ _ => by kernel_rfl
  go_enter Try.func154, Try.ntmps154
  go_wp2
  go_loopg [] s.length (fun g wx => ∃ pos : Nat, wx.heap[w.heap.size]? = some (.stringIter (strB s) pos) ∧ Below w.heap.size w wx ∧ s.length ≤ pos + g ∧ (∀ c ∈ s.take pos, nameByte c.toNat = true))
  case atStart => exact ⟨0, World.iter_heap w (strB s) 0, (Below.refl _ w).alloc (Nat.le_refl _) _, by omega, by simp⟩
  case round =>
    obtain ⟨pos, hit, hbw, hfu, hok⟩ := hrel
    have GB := hide hbw
    have GN := hide hok
    have hsz : w.heap.size < wr.heap.size := (Array.getElem?_eq_some_iff.1 hit).1
    clear hbw hok
    by_cases hp0 : pos < s.length
    · have hp : pos < (strB s).size := by rw [strB_size]; exact hp0
      obtain ⟨g, rfl⟩ : ∃ g, gk = g + 1 := ⟨gk - 1, by omega⟩
      have hnx : ∀ ty, (Instr.next (.pointer (some ⟨w.heap.size, 0, none⟩)) true ty).run Try.prog wr = _ := fun ty => Lib.run_next_any_at wr w.heap.size (strB s) pos ty hit hp
      have hr1 := Lib.rune_le (strB s) pos
      have hwd := Lib.width_pos (strB s) pos
      have hdn := decode_name s pos hp0
      obtain ⟨R, hR⟩ : ∃ R, (Utf8.decode (strB s) pos).1 = R := ⟨_, rfl⟩
      obtain ⟨K, hK⟩ : ∃ K, (Utf8.decode (strB s) pos).2 = K := ⟨_, rfl⟩
      rw [hR, hK] at hnx
      rw [hR, hK] at hdn
      rw [hR] at hr1
      rw [hK] at hwd
      have hit2 := Lib.iterAt_heap wr w.heap.size (strB s) pos (pos + K) hit
      have hbw2 := Lib.below_iterAt GB.out (k := w.heap.size) (Nat.le_refl _) (strB s) (pos + K)
      obtain ⟨W, hWd⟩ : ∃ W, wr.iterAt w.heap.size (strB s) (pos + K) = W := ⟨_, rfl⟩
      rw [hWd] at hnx hit2 hbw2
      have hWs : w.heap.size < W.heap.size := (Array.getElem?_eq_some_iff.1 hit2).1
      have cS := hide (nameOther_calls R W hr1)
      have HDN := hide hdn
      have HI2 := hide (And.intro hit2 hbw2)
      clear hdn hit hit2 hbw2 hR hK hWd
      cases hx : nameByte R with
      | true =>
        rw [hx] at cS
        have HX := hide hx
        clear hx
        go_wp2_with (go_at_call 148; refine cS.out.mono ?_; rintro e w' ⟨rfl, rfl⟩)
        go_roundg g
        case measure => omega
        case rel =>
          have h1 : nameByte s[pos].toNat = true := HDN.out.1.symm.trans HX.out
          have hK1 := HDN.out.2 h1
          subst hK1
          refine ⟨pos + 1, HI2.out.1, HI2.out.2, by omega, fun c hc => ?_⟩
          rw [List.take_succ_eq_append_getElem hp0] at hc
          rcases List.mem_append.1 hc with h | h
          · exact GN.out c h
          · rw [List.mem_singleton.1 h]; exact h1
      | false =>
        rw [hx] at cS
        have HX := hide hx
        clear hx
        go_wp2_with (go_at_call 148; refine cS.out.mono ?_; rintro e w' ⟨rfl, rfl⟩)
        go_ret
        refine ⟨⟨(pos : Int), rfl, ?_⟩, HI2.out.2⟩
        have h1 : nameByte s[pos].toNat = false := HDN.out.1.symm.trans HX.out
        rw [show (s.all fun c => nameByte c.toNat) = false from List.all_eq_false.2 ⟨s[pos], List.getElem_mem _, by rw [h1]; simp⟩]
        simp
    · have hp : ¬ pos < (strB s).size := by rw [strB_size]; exact hp0
      have hnx : ∀ ty, (Instr.next (.pointer (some ⟨w.heap.size, 0, none⟩)) true ty).run Try.prog wr = _ := fun ty => Lib.run_next_end_at wr w.heap.size (strB s) pos ty hit hp
      clear hit
      go_wp2
      go_ret
      refine ⟨⟨-1, rfl, ?_⟩, GB.out⟩
      rw [show (s.all fun c => nameByte c.toNat) = true from List.all_eq_true.2 fun c hc => GN.out c (by rw [List.take_of_length_le (by omega)]; exact hc)]
      rfl

set_option maxHeartbeats 400000 in
theorem nameIndexS_calls (s : Str) (w : World) (hs : s.length ≤ maxLen) :
    Calls Try.prog 147 #[sv s, .func (.func 148) #[] #[]] w (OtherPost s w) := by
  have HI := hide (nameIndex_calls s w hs)
  go_enter Try.func147, Try.ntmps147
  go_wp2_with fail
  refine HI.out.mono ?_
  rintro e w1 ⟨⟨z, rfl, hz⟩, hb⟩
  have HZ := hide hz
  have HB := hide hb
  clear hz hb
  go_wp2
  go_ret
  exact ⟨⟨z, rfl, HZ.out⟩, HB.out⟩

set_option maxHeartbeats 1000000 in
theorem name_calls (s : Str) (w : World) (hs : s.length ≤ maxLen) : Calls Try.prog 136 #[sv s] w (Gives (.bool (nameB s)) w) := by
  have HI := hide (nameIndexS_calls s w hs)
  go_enter Try.func136, Try.ntmps136
  go_wp2_with fail
  refine HI.out.mono ?_
  rintro e w1 ⟨⟨z, rfl, hz⟩, hb⟩
  have HB := hide hb
  have HN : Hid (nameB s = (decide (z < 0) && decide (1 ≤ s.length ∧ s.length ≤ 12))) := hide (by rw [hz]; rfl)
  clear hb hz
  unfold maxLen at hs
  by_cases h1 : s.length = 0
  · obtain rfl : s = [] := List.eq_nil_of_length_eq_zero h1
    go_wp2
    go_ret
    exact ⟨ret_eq (by rw [HN.out]; simp), HB.out⟩
  · have hne : ¬ s = [] := fun e => h1 (by rw [e]; rfl)
    have hne2 : s.isEmpty = false := by cases s; exact absurd rfl hne; rfl
    by_cases h2 : s.length ≤ 12
    · have hd : decide (1 ≤ s.length ∧ s.length ≤ 12) = true := decide_eq_true ⟨by omega, h2⟩
      rw [hd, Bool.and_true] at HN
      clear hd
      go_wp2
      go_ret
      exact ⟨ret_eq (by rw [HN.out]; rfl), HB.out⟩
    · have hd : decide (1 ≤ s.length ∧ s.length ≤ 12) = false := decide_eq_false fun h => h2 h.2
      rw [hd, Bool.and_false] at HN
      clear hd
      go_wp2
      go_ret
      exact ⟨ret_eq (by rw [HN.out]; rfl), HB.out⟩
end Go.Proofs.Ytpnjkebjdclkfaa
