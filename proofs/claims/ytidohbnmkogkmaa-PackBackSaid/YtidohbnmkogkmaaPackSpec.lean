/- Plain functions on lists of bytes: what the layer pack writes and reads, and laws about them. Conditions: none. -/
namespace Go.Proofs.Ytidohbnmkogkmaa

def b8 (n : Nat) : UInt8 := UInt8.ofNat n
theorem b8_toNat (n : Nat) (h : n < 256) : (b8 n).toNat = n := by simp [b8]; omega

/-- A number's bytes. -/
def numB (n : Nat) : List UInt8 := if n < 128 then [b8 n] else b8 (n % 128 + 128) :: numB (n / 128)
termination_by n
decreasing_by omega

theorem numB_lt (n : Nat) (h : n < 128) : numB n = [b8 n] := by rw [numB, if_pos h]
theorem numB_ge (n : Nat) (h : ¬ n < 128) : numB n = b8 (n % 128 + 128) :: numB (n / 128) := by rw [numB, if_neg h]
theorem numB_length (n : Nat) : ∀ k, n < 128 ^ (k + 1) → (numB n).length ≤ k + 1 := by
  intro k
  induction k generalizing n with
  | zero => intro h; rw [numB_lt n (by simpa using h)]; simp
  | succ k ih =>
    intro h
    by_cases h1 : n < 128
    · rw [numB_lt n h1]; simp
    · rw [numB_ge n h1]
      have := ih (n / 128) (by rw [Nat.pow_succ] at h; exact Nat.div_lt_of_lt_mul (by omega))
      simp only [List.length_cons]; omega
theorem numB_length_le (n : Nat) (h : n < 18446744073709551616) : (numB n).length ≤ 10 := numB_length n 9 (by simp; omega)
/-- The number that a signed one is written as. -/
def zig (n : Int) : Nat := if n < 0 then (2 * (-(n + 1)) + 1).toNat else (2 * n).toNat
theorem numB_pos (n : Nat) : 0 < (numB n).length := by
  by_cases h : n < 128
  · rw [numB_lt n h]; simp
  · rw [numB_ge n h]; simp

/-- What the reader makes of bytes, at digit i, n read so far. -/
def numGo (i n : Nat) : List UInt8 → Option (Nat × Nat)
  | [] => none
  | c :: l =>
    if i = 10 ∨ i = 9 ∧ 1 < c.toNat then none
    else if 128 ≤ c.toNat then numGo (i + 1) (n + c.toNat % 128 * 128 ^ i) l
    else if c.toNat = 0 ∧ 0 < i then none
    else some (n + c.toNat % 128 * 128 ^ i, i + 1)
def numP (l : List UInt8) : Option (Nat × Nat) := numGo 0 0 l

theorem numGo_bounds : ∀ (l : List UInt8) (i n : Nat), i ≤ 10 → n < 128 ^ i → (i = 10 → n < 18446744073709551616) → ∀ m s, numGo i n l = some (m, s) → m < 18446744073709551616 ∧ i < s ∧ s ≤ i + l.length ∧ s ≤ 10 := by
  intro l
  induction l with
  | nil => intro i n _ _ _ m s h; simp [numGo] at h
  | cons c l ih =>
    intro i n hi hn h10 m s h
    simp only [numGo] at h
    split at h
    · cases h
    · rename_i h1
      have hc : c.toNat < 256 := UInt8.toNat_lt c
      have hm : n + c.toNat % 128 * 128 ^ i < 128 ^ (i + 1) := by
        have h2 : c.toNat % 128 * 128 ^ i ≤ 127 * 128 ^ i := Nat.mul_le_mul_right _ (by omega)
        rw [Nat.pow_succ]; omega
      have hu : n + c.toNat % 128 * 128 ^ i < 18446744073709551616 := by
        by_cases h9 : i = 9
        · subst h9
          have : c.toNat ≤ 1 := by omega
          have h2 : c.toNat % 128 * 128 ^ 9 ≤ 1 * 128 ^ 9 := Nat.mul_le_mul_right _ (by omega)
          simp at h2 hn ⊢
          omega
        · have h8 : i + 1 ≤ 9 := by omega
          have : 128 ^ (i + 1) ≤ 128 ^ 9 := Nat.pow_le_pow_right (by omega) h8
          simp at this
          omega
      split at h
      · obtain ⟨a, b, c', d⟩ := ih (i + 1) _ (by omega) hm (fun _ => hu) m s h
        simp only [List.length_cons]
        omega
      · split at h
        · cases h
        · simp only [Option.some.injEq, Prod.mk.injEq] at h
          simp only [List.length_cons]
          omega

/-- What was written is read. -/
theorem numGo_numB : ∀ (k n i m : Nat) (rest : List UInt8), n < 128 ^ k → 0 < k → i + k ≤ 10 → (i + k = 10 → n < 2 * 128 ^ (k - 1)) → (0 < i → 0 < n) → numGo i m (numB n ++ rest) = some (m + n * 128 ^ i, i + (numB n).length) := by
  intro k
  induction k with
  | zero => intro n i m rest _ h; omega
  | succ k ih =>
    intro n i m rest hn _ hik h10 hpos
    by_cases h : n < 128
    · rw [numB_lt n h]
      simp only [List.cons_append, List.nil_append, numGo, b8_toNat n (by omega), List.length_singleton]
      rw [if_neg (by
        rintro (h1 | ⟨h1, h2⟩)
        · omega
        · have : k = 0 := by omega
          subst this
          have := h10 (by omega)
          simp at this
          omega), if_neg (by omega), if_neg (by omega), Nat.mod_eq_of_lt h]
    · rw [numB_ge n h]
      have hk : 0 < k := by
        rcases Nat.eq_zero_or_pos k with h0 | h0
        · subst h0; simp at hn; omega
        · exact h0
      have hq : n / 128 < 128 ^ k := by rw [Nat.pow_succ] at hn; exact Nat.div_lt_of_lt_mul (by omega)
      simp only [List.cons_append, numGo, b8_toNat (n % 128 + 128) (by omega), List.length_cons]
      rw [if_neg (by omega), if_pos (by omega), ih (n / 128) (i + 1) _ rest hq hk (by omega) (fun h1 => by
        have h2 := h10 (by omega)
        have h3 : k + 1 - 1 = (k - 1) + 1 := by omega
        rw [h3, Nat.pow_succ] at h2
        exact Nat.div_lt_of_lt_mul (by omega)) (fun _ => by omega)]
      have e1 : (n % 128 + 128) % 128 = n % 128 := by omega
      have e2 : n = n % 128 + 128 * (n / 128) := by omega
      rw [e1, Nat.pow_succ]
      congr 2
      · conv => rhs; rw [e2]
        rw [Nat.add_mul, Nat.mul_assoc, Nat.mul_comm 128, Nat.mul_assoc, Nat.add_assoc]
      · omega
theorem numP_numB (n : Nat) (rest : List UInt8) (h : n < 18446744073709551616) : numP (numB n ++ rest) = some (n, (numB n).length) := by
  have := numGo_numB 10 n 0 0 rest (by simp; omega) (by omega) (by omega) (fun _ => by simp; omega) (fun h => absurd h (by omega))
  simpa [numP] using this

/-- What is read has just these bytes. -/
theorem numGo_sole : ∀ (l : List UInt8) (i n : Nat), ∀ m s, numGo i n l = some (m, s) → ∃ q, m = n + q * 128 ^ i ∧ l.take (s - i) = numB q ∧ i < s ∧ (0 < i → 0 < q) := by
  intro l
  induction l with
  | nil => intro i n m s h; simp [numGo] at h
  | cons c l ih =>
    intro i n m s h
    have hc : c.toNat < 256 := UInt8.toNat_lt c
    simp only [numGo] at h
    split at h
    · cases h
    · split at h
      · rename_i h1 h2
        obtain ⟨q, rfl, ht, hs, hq⟩ := ih (i + 1) _ m s h
        have hq0 := hq (by omega)
        refine ⟨c.toNat % 128 + 128 * q, ?_, ?_, by omega, fun _ => by omega⟩
        · rw [Nat.pow_succ, Nat.add_mul, Nat.add_assoc]
          congr 2
          rw [Nat.mul_comm 128 q, Nat.mul_assoc, Nat.mul_comm (128 ^ i)]
        · have e : s - i = (s - (i + 1)) + 1 := by omega
          rw [e, List.take_succ_cons, ht, numB_ge (c.toNat % 128 + 128 * q) (by omega)]
          have e1 : (c.toNat % 128 + 128 * q) % 128 + 128 = c.toNat := by omega
          have e2 : (c.toNat % 128 + 128 * q) / 128 = q := by omega
          rw [e1, e2]
          simp [b8]
      · split at h
        · cases h
        · rename_i h1 h2 h3
          simp only [Option.some.injEq, Prod.mk.injEq] at h
          refine ⟨c.toNat, ?_, ?_, by omega, fun h0 => by omega⟩
          · rw [← h.1, Nat.mod_eq_of_lt (by omega)]
          · rw [← h.2, Nat.add_sub_cancel_left, numB_lt c.toNat (by omega)]
            simp [b8]
theorem numP_sole (l : List UInt8) (m s : Nat) (h : numP l = some (m, s)) : l.take s = numB m := by
  obtain ⟨q, h1, h2, _⟩ := numGo_sole l 0 0 m s h
  simp at h1
  subst h1
  simpa using h2
end Go.Proofs.Ytidohbnmkogkmaa
