/- Contracts of the document's equality tests on lists (dioptreref01). Conditions: lengths that fit. -/
import Derived.Test.YtidohbnmkogkmaaMem
import Derived.Test.YtidohbnmkogkmaaProg
namespace Go.Proofs.Ytidohbnmkogkmaa
open Go.RowKit

theorem eq_of_take {α : Type} (a b : List α) (h : a.length = b.length) (k : Nat) (hk : a.length ≤ k) (ht : a.take k = b.take k) : a = b := by
  rwa [List.take_of_length_le hk, List.take_of_length_le (by omega)] at ht
theorem take_succ_eq {α : Type} (a b : List α) (k : Nat) (ha : k < a.length) (hb : k < b.length) (ht : a.take k = b.take k) (he : a[k] = b[k]) : a.take (k + 1) = b.take (k + 1) := by
  rw [List.take_succ_eq_append_getElem ha, List.take_succ_eq_append_getElem hb, ht, he]

set_option maxHeartbeats 400000 in
theorem refEqBytes_calls (a b : List UInt8) (A B : Option Addr) (ca cb N M : Nat) (w : World) (ha : Reads w N 1 A a.length (a.map bv)) (hb : Reads w M 1 B b.length (b.map bv))
    (la : a.length ≤ 1099511627776) :
    Calls Try.prog 16 #[.slice A a.length ca, .slice B b.length cb] w (fun e w' => e = .returned (.bool (decide (a = b))) ∧ ∃ n, w' = w.drewN n) := by
  by_cases hl : a.length = b.length
  · have HL := hide hl
    have h1 : (((a.length : Int)) != (b.length : Int)) = false := by simp; omega
    clear hl
    go_enter Try.func16, Try.ntmps16
    go_wp2
    go_loopw [5] (fun v wr => ∃ k : Nat, v = .int .i64 k ∧ k ≤ a.length ∧ a.take k = b.take k ∧ ∃ n, wr = w.drewN n) (fun v _ => a.length - (intOf v).toNat)
    case atStart => exact ⟨0, rfl, Nat.zero_le _, rfl, 0, rfl⟩
    case round =>
      obtain ⟨k, rfl, hk, ht, n, rfl⟩ := hrel
      have HT := hide ht
      clear ht
      by_cases hlt : k < a.length
      · have hk2 : k < b.length := by rw [← HL.out]; exact hlt
        obtain ⟨b1, o1, rfl, _, hc⟩ := ha.map_at hlt
        obtain ⟨b2, o2, rfl, _, hd⟩ := hb.map_at hk2
        clear ha hb
        by_cases he : ((a[k].toNat : Int) != (b[k].toNat : Int)) = false
        · have hn : a.take (k + 1) = b.take (k + 1) := take_succ_eq a b k hlt hk2 HT.out (by simp at he; exact UInt8.toNat_inj.1 (by omega))
          have HN := hide hn
          clear hn
          go_wp2_with fail
          go_quiet (fail)
          go_wp2
          exact ⟨⟨k + 1, by go_num, by omega, HN.out, _, rfl⟩, by simp [intOf]; omega⟩
        · have hne : Hid (decide (a = b) = false) := by
            have : a[k] ≠ b[k] := fun h => he (by simp [h])
            show decide (a = b) = false
            rw [decide_eq_false_iff_not]
            rintro rfl
            exact this rfl
          have he1 : ((a[k].toNat : Int) != (b[k].toNat : Int)) = true := by simpa using he
          clear he
          go_wp2_with fail
          go_quiet (fail)
          go_wp2
          go_ret
          exact ⟨ret_eq (by rw [hne.out]; rfl), _, World.drewN_drewN ..⟩
      · have heq : decide (a = b) = true := by simpa using eq_of_take a b HL.out k (by omega) HT.out
        have HE := hide heq
        clear heq ha hb
        go_wp2
        go_ret
        exact ⟨ret_eq (by rw [HE.out]; rfl), _, rfl⟩
  · have h1 : (((a.length : Int)) != (b.length : Int)) = true := by simp; omega
    have HL := hide hl
    clear hl
    go_enter Try.func16, Try.ntmps16
    go_wp2
    go_ret
    refine ⟨ret_eq ?_, 0, rfl⟩
    rw [show decide (a = b) = false from by simp; intro h; exact HL.out (by rw [h])]
    rfl
end Go.Proofs.Ytidohbnmkogkmaa
