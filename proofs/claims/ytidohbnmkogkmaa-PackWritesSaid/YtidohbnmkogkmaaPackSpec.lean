/- Plain functions on lists of bytes: what the layer pack writes and reads, and laws about them. Conditions: none. -/
namespace Go.Proofs.Ytidohbnmkogkmaa

def b8 (n : Nat) : UInt8 := UInt8.ofNat n
theorem b8_toNat (n : Nat) (h : n < 256) : (b8 n).toNat = n := by simp [b8]; omega

/-- A number's bytes. -/
def numB (n : Nat) : List UInt8 := if n < 128 then [b8 n] else b8 (n % 128 + 128) :: numB (n / 128)
termination_by n
decreasing_by omega

theorem numB_lt (n : Nat) (h : n < 128) : numB n = [b8 n] := by rw [numB, if_pos h]
theorem numB_ge (n : Nat) (h : ¬ n < 128) : numB n = b8 (n % 128 + 128) :: numB (n / 128) := by rw [numB, if_neg h]
theorem numB_length (n : Nat) : ∀ k, n < 128 ^ (k + 1) → (numB n).length ≤ k + 1 := by
  intro k
  induction k generalizing n with
  | zero => intro h; rw [numB_lt n (by simpa using h)]; simp
  | succ k ih =>
    intro h
    by_cases h1 : n < 128
    · rw [numB_lt n h1]; simp
    · rw [numB_ge n h1]
      have := ih (n / 128) (by rw [Nat.pow_succ] at h; exact Nat.div_lt_of_lt_mul (by omega))
      simp only [List.length_cons]; omega
theorem numB_length_le (n : Nat) (h : n < 18446744073709551616) : (numB n).length ≤ 10 := numB_length n 9 (by simp; omega)
/-- The number that a signed one is written as. -/
def zig (n : Int) : Nat := if n < 0 then (2 * (-(n + 1)) + 1).toNat else (2 * n).toNat
theorem numB_pos (n : Nat) : 0 < (numB n).length := by
  by_cases h : n < 128
  · rw [numB_lt n h]; simp
  · rw [numB_ge n h]; simp
end Go.Proofs.Ytidohbnmkogkmaa
