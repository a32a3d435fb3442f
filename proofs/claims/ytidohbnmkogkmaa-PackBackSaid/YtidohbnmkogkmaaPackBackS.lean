/- What was written is read: plain laws of the reader's functions on bytes. Conditions: none. -/
import Derived.Test.YtidohbnmkogkmaaPackB
import Derived.Test.YtidohbnmkogkmaaPackWritesW
namespace Go.Proofs.Ytidohbnmkogkmaa

section
variable (pre rest : List UInt8) (d : DField)
theorem drop_pre (x : List UInt8) : (pre ++ (x ++ rest)).drop pre.length = x ++ rest := List.drop_left
theorem back0 (k : d.kind = 0) : fieldB d = [b8 d.n] ∧ rByte (pre ++ (fieldB d ++ rest)) pre.length none = (b8 d.n, pre.length + (fieldB d).length, none) := by
  have h : fieldB d = [b8 d.n] := by simp [fieldB, k]
  rw [h]
  refine ⟨rfl, ?_⟩
  simp only [rByte, drop_pre]
  rfl
theorem rNum_back (n : Nat) (hn : IsU64 n) (most : Nat) (hm : n ≤ most) : rNum (pre ++ (numB n ++ rest)) pre.length none most = (n, pre.length + (numB n).length, none) := by
  simp only [rNum, drop_pre, numP_numB n rest hn]
  rw [if_neg (by omega)]
theorem back1 (hn : IsU64 d.n) (k : d.kind = 1) : rNum (pre ++ (fieldB d ++ rest)) pre.length none d.n = (d.n, pre.length + (fieldB d).length, none) := by
  have h : fieldB d = numB d.n := by simp [fieldB, k]
  rw [h]
  exact rNum_back pre rest d.n hn d.n (Nat.le_refl _)
theorem back2 (k : d.kind = 2) : rNum (pre ++ (fieldB d ++ rest)) pre.length none 18446744073709551615 = (zig (RowKit.wrap64 d.n), pre.length + (fieldB d).length, none) := by
  have h : fieldB d = numB (zig (RowKit.wrap64 d.n)) := by simp [fieldB, k]
  rw [h]
  have hz := zig_u64 _ (wrap64_i64 d.n)
  exact rNum_back pre rest _ hz _ (by unfold IsU64 at hz; omega)
theorem back3 (k : d.kind = 3) : rBool (pre ++ (fieldB d ++ rest)) pre.length none = (decide (d.n % 2 = 1), pre.length + (fieldB d).length, none) := by
  have h : fieldB d = [if d.n % 2 = 1 then 1 else 0] := by simp [fieldB, k]
  rw [h]
  simp only [rBool, List.cons_append, List.nil_append]
  by_cases h1 : d.n % 2 = 1
  · simp [h1]
  · simp [h1]
theorem rBytes_back (b : List UInt8) (hb : b.length ≤ 1000000) : rBytes (pre ++ ((numB b.length ++ b) ++ rest)) pre.length none (b.length : Int) = (b, pre.length + (numB b.length ++ b).length, none) := by
  have hp := numP_numB b.length (b ++ rest) (by omega)
  rw [← List.append_assoc] at hp
  simp only [rBytes, drop_pre, hp, Int.toNat_natCast]
  rw [if_neg (by omega), if_neg (by simp)]
  rw [List.append_assoc, List.drop_left, List.take_left, List.length_append]
theorem back4 (hb : d.b.length ≤ 1000000) (k : d.kind = 4 ∨ d.kind = 5) : rBytes (pre ++ (fieldB d ++ rest)) pre.length none (d.b.length : Int) = (d.b, pre.length + (fieldB d).length, none) := by
  have h : fieldB d = numB d.b.length ++ d.b := by
    rcases k with k | k <;> simp [fieldB, k]
  rw [h]
  exact rBytes_back pre rest d.b hb
theorem back6 (k : d.kind ≠ 0 ∧ d.kind ≠ 1 ∧ d.kind ≠ 2 ∧ d.kind ≠ 3 ∧ d.kind ≠ 4 ∧ d.kind ≠ 5) : rRaw (pre ++ (fieldB d ++ rest)) pre.length none (d.b.length : Int) = (d.b, pre.length + (fieldB d).length, none) := by
  have h : fieldB d = d.b := by simp [fieldB, k]
  rw [h]
  simp only [rRaw, drop_pre, Int.toNat_natCast]
  rw [if_pos (by simp), List.take_left]
end
end Go.Proofs.Ytidohbnmkogkmaa
