/- The data of the pack laws: lists of fields, as they lie in memory; Great. Conditions: none. -/
import Derived.Test.YtidohbnmkogkmaaPackW
namespace Go.Proofs.Ytidohbnmkogkmaa
open Go.RowKit

structure DField where
  kind : Int
  n : Nat
  b : List UInt8
  most : Int

def IsField (w : World) (B : Nat) (b o : Nat) (d : DField) : Prop :=
  ∃ A c, w.cell? ⟨b, o, none⟩ = some (.int .i64 d.kind) ∧ w.cell? ⟨b, o + 1, none⟩ = some (.int .u64 d.n) ∧ w.cell? ⟨b, o + 2, none⟩ = some (.slice A d.b.length c) ∧ w.cell? ⟨b, o + 3, none⟩ = some (.int .i64 d.most) ∧
    Reads w B 1 A d.b.length (d.b.map bv) ∧ d.b.length ≤ c ∧ d.b.length ≤ 140737488351232 ∧ IsU64 d.n ∧ IsI64 d.kind ∧ IsI64 d.most
def IsFields (w : World) (B : Nat) (A : Option Addr) (fs : List DField) : Prop :=
  0 < fs.length → ∃ b o, A = some ⟨b, o, none⟩ ∧ b < B ∧ ∀ i d, fs[i]? = some d → IsField w B b (o + i * 4) d
def total (fs : List DField) : Nat := fs.length + (fs.map fun d => d.b.length).sum

theorem IsField.keep {w w' : World} {B b o : Nat} {d : DField} (h : IsField w B b o d) (hp : b < B) (hk : ∀ q : Addr, q.block < B → w'.cell? q = w.cell? q) : IsField w' B b o d := by
  obtain ⟨A, c, h0, h1, h2, h3, hr, hx⟩ := h
  exact ⟨A, c, (hk _ hp).trans h0, (hk _ hp).trans h1, (hk _ hp).trans h2, (hk _ hp).trans h3, hr.keep hk, hx⟩
theorem IsFields.keep {w w' : World} {B : Nat} {A : Option Addr} {fs : List DField} (h : IsFields w B A fs) (hk : ∀ q : Addr, q.block < B → w'.cell? q = w.cell? q) : IsFields w' B A fs := fun hn => by
  obtain ⟨b, o, e, hb, hf⟩ := h hn
  exact ⟨b, o, e, hb, fun i d hd => (hf i d hd).keep hb hk⟩
theorem IsFields.below {w w' : World} {B : Nat} {A : Option Addr} {fs : List DField} (h : IsFields w B A fs) (hb : Below B w w') : IsFields w' B A fs := h.keep fun _ hp => hb.cell hp

theorem total_take (fs : List DField) (k : Nat) (hk : k < fs.length) : ((fs.take (k + 1)).map fun d => d.b.length).sum = ((fs.take k).map fun d => d.b.length).sum + fs[k].b.length := by
  rw [List.take_succ_eq_append_getElem hk, List.map_append, List.sum_append]; simp
theorem total_take_le (fs : List DField) (k : Nat) : ((fs.take k).map fun d => d.b.length).sum ≤ (fs.map fun d => d.b.length).sum := by
  have h := List.take_append_drop k fs
  have h2 : (fs.map fun d => d.b.length).sum = (((fs.take k) ++ (fs.drop k)).map fun d => d.b.length).sum := by rw [h]
  rw [h2, List.map_append, List.sum_append]
  omega

set_option maxHeartbeats 400000 in
theorem great_calls (fs : List DField) (A : Option Addr) (c B : Nat) (w : World) (h : IsFields w B A fs) (hlen : fs.length ≤ 140737488351232) :
    Calls Try.prog 13 #[.slice A fs.length c] w (fun e w' => e = .returned (.bool (decide (400 < total fs))) ∧ w = w') := by
  go_enter Try.func13, Try.ntmps13
  go_wp2
  go_loop [3, 4] (fun n i => ∃ (k s : Nat), k ≤ fs.length ∧ i = .int .i64 k ∧ n = .int .i64 s ∧ s = fs.length + ((fs.take k).map fun d => d.b.length).sum ∧ s ≤ 140737488352000) (fun _ i => fs.length - (intOf i).toNat)
  case atStart => exact ⟨0, fs.length, Nat.zero_le _, rfl, rfl, by simp, by omega⟩
  case round =>
    obtain ⟨k, s, hk, rfl, rfl, hs, hs2⟩ := hrel
    have HS := hide hs
    clear hs
    by_cases hlt : k < fs.length
    · by_cases h4 : s ≤ 400
      · obtain ⟨b, o, rfl, hb, hf⟩ := h (by omega)
        obtain ⟨A1, c1, g0, g1, g2, g3, gr, gc, gb, gx⟩ := hf k _ (List.getElem?_eq_getElem hlt)
        have h5 : decide ((s : Int) ≤ 400) = true := by simp; omega
        have ht := total_take fs k hlt
        have hn : s + fs[k].b.length = fs.length + ((fs.take (k + 1)).map fun d => d.b.length).sum := by rw [ht, HS.out]; omega
        have HN := hide hn
        clear hf h g0 g1 g3 ht hn
        go_wp2_with fail
        exact ⟨⟨k + 1, s + fs[k].b.length, by omega, by go_num, by go_num, HN.out, by omega⟩, by simp [intOf]; omega⟩
      · have h5 : decide ((s : Int) ≤ 400) = false := by simp; omega
        have HT : Hid (decide (400 < total fs) = true) := by
          have t1 := total_take_le fs k
          have t2 := HS.out
          show decide (400 < total fs) = true
          rw [decide_eq_true_eq]
          unfold total
          omega
        clear h
        go_wp2
        go_ret
        exact ⟨ret_eq (by rw [HT.out]; simp; omega), rfl⟩
    · have HT : Hid (s = total fs) := by rw [HS.out, List.take_of_length_le (by omega)]; rfl
      clear h
      go_wp2
      go_ret
      exact ⟨ret_eq (by rw [← HT.out]; simp; omega), rfl⟩
end Go.Proofs.Ytidohbnmkogkmaa
