/- The plain law of the layer bloom: filters by their bits. No program in sight. Conditions: none. -/
import Derived.Test.YtidohbnmkogkmaaBloomW
namespace Go.Proofs.Ytidohbnmkogkmaa

def bitOf (f : List UInt8) (n : Nat) : Bool := (f.getD (n / 8) 0).toNat.testBit (n % 8)
/-- Does one of a name's bits stand at n? -/
def namesB (h : List UInt8) (n : Nat) : Bool := (List.range 4).any fun i => decide (n = placeN h i)

theorem orBit_toNat (x : UInt8) (j : Nat) (hj : j < 8) : (orBit x j).toNat = x.toNat ||| 2 ^ j := by
  have h := orBit_val' ⟨j, hj⟩ ⟨x.toNat, UInt8.toNat_lt x⟩
  exact b8'_toNat _ h.2
theorem bit_set (f : List UInt8) (k n : Nat) (hf : f.length = 64) (hk : k < 512) : bitOf (setBit f k) n = (bitOf f n || decide (n = k)) := by
  unfold bitOf setBit
  by_cases h : n / 8 = k / 8
  · have hl : k / 8 < f.length := by omega
    have e : ∀ v, (f.set (k / 8) v).getD (k / 8) 0 = v := fun v => by simp [List.getD, hl]
    rw [h, e, orBit_toNat _ _ (Nat.mod_lt _ (by omega)), Nat.testBit_or, Nat.testBit_two_pow]
    congr 1
    rw [Bool.eq_iff_iff]
    simp
    omega
  · have e : ∀ v, (f.set (k / 8) v).getD (n / 8) 0 = f.getD (n / 8) 0 := fun v => by simp [List.getD, List.getElem?_set_ne (fun x => h x.symm)]
    have hn : n ≠ k := fun x => h (by rw [x])
    rw [e]
    simp [hn]
theorem bits_ext (f g : List UInt8) (hf : f.length = 64) (hg : g.length = 64) (h : ∀ n, n < 512 → bitOf f n = bitOf g n) : f = g := by
  refine List.ext_getElem (by omega) fun i h1 h2 => ?_
  apply UInt8.toNat_inj.1
  apply Nat.eq_of_testBit_eq
  intro j
  by_cases hj : j < 8
  · have := h (8 * i + j) (by omega)
    unfold bitOf at this
    rw [show (8 * i + j) / 8 = i by omega, show (8 * i + j) % 8 = j by omega] at this
    simpa [List.getD, h1, h2] using this
  · have p : 2 ^ 8 ≤ 2 ^ j := Nat.pow_le_pow_right (by omega) (by omega)
    have a := UInt8.toNat_lt f[i]
    have b := UInt8.toNat_lt g[i]
    rw [Nat.testBit_lt_two_pow (by omega), Nat.testBit_lt_two_pow (by omega)]
theorem placeN_lt (h : List UInt8) (i : Nat) : placeN h i < 512 := Nat.mod_lt _ (by omega)
theorem bit_addI (f h : List UInt8) (j n : Nat) (hf : f.length = 64) : bitOf (addI f h j) n = (bitOf f n || (List.range j).any fun i => decide (n = placeN h i)) := by
  induction j with
  | zero => simp [addI]
  | succ j ih => rw [addI_succ, bit_set _ _ _ ((addI_length _ _ _).trans hf) (placeN_lt _ _), ih, List.range_succ, List.any_append]; simp [Bool.or_assoc]
theorem bit_addL (f : List UInt8) (l : List (List UInt8)) (n : Nat) (hf : f.length = 64) : bitOf (addL f l) n = (bitOf f n || l.any fun h => namesB h n) := by
  induction l generalizing f with
  | nil => simp [addL]
  | cons h l ih =>
    have : addL f (h :: l) = addL (addH f h) l := rfl
    rw [this, ih (addH f h) ((addI_length f h 4).trans hf), show bitOf (addH f h) n = (bitOf f n || namesB h n) from bit_addI f h 4 n hf, List.any_cons, Bool.or_assoc]
theorem addL_append (f : List UInt8) (a b : List (List UInt8)) : addL f (a ++ b) = addL (addL f a) b := by simp [addL]
/-- What is added, not in which order nor how often. -/
theorem addL_set (f : List UInt8) (a b : List (List UInt8)) (hf : f.length = 64) (h1 : ∀ x ∈ a, x ∈ b) (h2 : ∀ x ∈ b, x ∈ a) : addL f a = addL f b := by
  refine bits_ext _ _ ((addL_length _ _).trans hf) ((addL_length _ _).trans hf) fun n _ => ?_
  rw [bit_addL _ _ _ hf, bit_addL _ _ _ hf]
  congr 1
  rw [Bool.eq_iff_iff, List.any_eq_true, List.any_eq_true]
  exact ⟨fun ⟨x, hx, h⟩ => ⟨x, h1 x hx, h⟩, fun ⟨x, hx, h⟩ => ⟨x, h2 x hx, h⟩⟩
end Go.Proofs.Ytidohbnmkogkmaa
