/- Contracts of the layer pack's readers. Conditions: lengths below 2^40. -/
import Derived.Test.YtidohbnmkogkmaaPackW
namespace Go.Proofs.Ytidohbnmkogkmaa
open Go.RowKit

def numRet (r : Option (Nat × Nat)) : Value := match r with
  | some (n, s) => .tuple #[.int .u64 n, .int .i64 s, .int .i64 0]
  | none => .tuple #[.int .u64 0, .int .i64 0, .int .i64 2]

theorem drop_cons' {α : Type} (l : List α) (k : Nat) (h : k < l.length) : l.drop k = l[k] :: l.drop (k + 1) := by rw [List.drop_eq_getElem_cons h]

theorem andNot80' : ∀ x : Fin 256, bits BinOp.andNot IntKind.u8 (x.val : Int) 128 = ((x.val % 128 : Nat) : Int) := by decide +kernel
theorem digit_put (m c k : Nat) (hm : m < 128 ^ k) (hk : k ≤ 9) (hk9 : k = 9 → c ≤ 1) (hc : c < 256) :
    bits BinOp.or IntKind.u64 (m : Int) (IntKind.u64.wrap (IntKind.u64.wrap (bits BinOp.andNot IntKind.u8 (c : Int) 128) * 2 ^ (7 * k))) = ((m + c % 128 * 128 ^ k : Nat) : Int) := by
  have h1 := andNot80' ⟨c, hc⟩
  simp only at h1
  have e2 : (2 : Nat) ^ (7 * k) = 128 ^ k := by rw [Nat.pow_mul]
  have hu : c % 128 * 128 ^ k < 18446744073709551616 ∧ 128 ^ k ≤ 9223372036854775808 := by
    have h3 : (128 : Nat) ^ k ≤ 128 ^ 9 := Nat.pow_le_pow_right (by omega) hk
    simp at h3
    refine ⟨?_, h3⟩
    by_cases h9 : k = 9
    · subst h9
      have := hk9 rfl
      have h4 : c % 128 * 128 ^ 9 ≤ 1 * 128 ^ 9 := Nat.mul_le_mul_right _ (by omega)
      simp at h4 ⊢
      omega
    · have h5 : (128 : Nat) ^ k ≤ 128 ^ 8 := Nat.pow_le_pow_right (by omega) (by omega)
      have h4 : c % 128 * 128 ^ k ≤ 127 * 128 ^ 8 := Nat.mul_le_mul (by omega) h5
      simp at h4
      omega
  rw [h1, wrap_u64 (c % 128) (by unfold IsU64; omega)]
  have e3 : ((c % 128 : Nat) : Int) * 2 ^ (7 * k) = ((c % 128 * 128 ^ k : Nat) : Int) := by rw [← e2]; push_cast; rfl
  rw [e3, wrap_u64 _ hu.1, bits_or_u64_nat _ _ (by omega) hu.1]
  congr 1
  rw [Nat.or_comm, ← e2, Nat.mul_comm, ← Nat.two_pow_add_eq_or_of_lt (by rw [e2]; exact hm)]
  omega

set_option maxHeartbeats 1000000 in
set_option maxRecDepth 20000 in
theorem packNumber_calls (l : List UInt8) (A : Option Addr) (c B : Nat) (w : World) (hr : Reads w B 1 A l.length (l.map bv)) (_hl : l.length ≤ 1099511627776) :
    Calls Try.prog 55 #[.slice A l.length c] w (fun e w' => e = .returned (numRet (numP l)) ∧ w = w') := by
  go_enter Try.func55, Try.ntmps55
  go_wp2
  go_loop [5, 10] (fun n i => ∃ (k m : Nat), k ≤ l.length ∧ k ≤ 10 ∧ i = .int .i64 k ∧ n = .int .u64 m ∧ m < 128 ^ k ∧ (k = 10 → IsU64 m) ∧ numP l = numGo k m (l.drop k)) (fun _ i => l.length - (intOf i).toNat)
  case atStart => exact ⟨0, 0, Nat.zero_le _, by omega, rfl, rfl, by simp, by omega, rfl⟩
  case round =>
    obtain ⟨k, m, hk, hk10, rfl, rfl, hm, hm10, hp⟩ := hrel
    have HM := hide hm
    have HM10 := hide hm10
    have HP := hide hp
    clear hm hm10 hp
    by_cases hlt : k < l.length
    · obtain ⟨b, o, rfl, _, hc⟩ := hr.map_at hlt
      have hd := drop_cons' l k hlt
      have HD := hide hd
      have hbyte : l[k].toNat < 256 := UInt8.toNat_lt _
      clear hd hr
      by_cases h10 : k = 10
      · have e1 : ((k : Int) == 10) = true := by simp; omega
        have hN : Hid (numP l = none) := by
          show numP l = none
          rw [HP.out, HD.out, numGo, if_pos (.inl h10)]
        clear h10
        go_wp2
        go_ret3
        exact ⟨ret_eq (by rw [hN.out]; rfl), rfl⟩
      · have e1 : ((k : Int) == 10) = false := by simp; omega
        by_cases h9 : k = 9 ∧ 1 < l[k].toNat
        · have e2 : ((k : Int) == 9) = true := by simp; omega
          have e3 : decide (1 < (l[k].toNat : Int)) = true := by simp; omega
          have hN : Hid (numP l = none) := by
            show numP l = none
            rw [HP.out, HD.out, numGo, if_pos (.inr h9)]
          clear h10 h9
          go_wp2
          go_ret3
          exact ⟨ret_eq (by rw [hN.out]; rfl), rfl⟩
        · have HG : Hid (¬ (k = 10 ∨ k = 9 ∧ 1 < l[k].toNat)) := by
            show ¬ (k = 10 ∨ k = 9 ∧ 1 < l[k].toNat)
            omega
          have hdig := digit_put m l[k].toNat k HM.out (by omega) (fun h => by omega) hbyte
          have hbound : k + 1 ≤ 10 := by omega
          have HU : Hid (m + l[k].toNat % 128 * 128 ^ k < 128 ^ (k + 1) ∧ (k + 1 = 10 → IsU64 (m + l[k].toNat % 128 * 128 ^ k))) := by
            have hm := HM.out
            refine ⟨?_, fun h => ?_⟩
            · have h2 : l[k].toNat % 128 * 128 ^ k ≤ 127 * 128 ^ k := Nat.mul_le_mul_right _ (by omega)
              rw [Nat.pow_succ]; omega
            · have h5 : k = 9 := by omega
              subst h5
              have h4 : l[9].toNat % 128 * 128 ^ 9 ≤ 1 * 128 ^ 9 := Nat.mul_le_mul_right _ (by omega)
              simp at h4 hm
              unfold IsU64
              omega
          have hcase : (((k : Int) == 9) = true ∧ decide (1 < (l[k].toNat : Int)) = false) ∨ ((k : Int) == 9) = false := by
            by_cases h : k = 9
            · exact .inl ⟨by simp; omega, by simp; omega⟩
            · exact .inr (by simp; omega)
          clear h10 h9
          rcases hcase with ⟨e2, e3⟩ | e2
          all_goals
            by_cases hge : 128 ≤ l[k].toNat
            · have HS : Hid (numP l = numGo (k + 1) (m + l[k].toNat % 128 * 128 ^ k) (l.drop (k + 1))) := by
                show _ = _
                rw [HP.out, HD.out, numGo, if_neg HG.out, if_pos hge]
              go_wp2
              exact ⟨⟨k + 1, _, by omega, hbound, by go_num, rfl, HU.out.1, HU.out.2, HS.out⟩, by simp [intOf]; omega⟩
            · by_cases hz : l[k].toNat = 0 ∧ 0 < k
              · have HS : Hid (numP l = none) := by
                  show _ = _
                  rw [HP.out, HD.out, numGo, if_neg HG.out, if_neg hge, if_pos hz]
                have z1 : ((l[k].toNat : Int) == 0) = true := by simp; omega
                have z2 : 0 < k := hz.2
                clear hz
                go_wp2
                go_ret3
                exact ⟨ret_eq (by rw [HS.out]; rfl), rfl⟩
              · have HS : Hid (numP l = some (m + l[k].toNat % 128 * 128 ^ k, k + 1)) := by
                  show _ = _
                  rw [HP.out, HD.out, numGo, if_neg HG.out, if_neg hge, if_neg hz]
                by_cases hz0 : l[k].toNat = 0
                · have z1 : ((l[k].toNat : Int) == 0) = true := by simp; omega
                  have z2 : ¬ 0 < k := fun h => hz ⟨hz0, h⟩
                  clear hz hz0
                  go_wp2
                  go_ret3
                  exact ⟨ret_eq (by rw [HS.out]; rfl), rfl⟩
                · have z1 : ((l[k].toNat : Int) == 0) = false := by simp; omega
                  clear hz hz0
                  go_wp2
                  go_ret3
                  exact ⟨ret_eq (by rw [HS.out]; rfl), rfl⟩
    · clear hr
      go_wp2
      go_ret3
      exact ⟨ret_eq (by rw [HP.out, List.drop_eq_nil_of_le (by omega)]; rfl), rfl⟩

/-- An error value: nil, or a number in a place. -/
def ErrIs (w : World) (v : Value) : Option (Int × Int) → Prop
  | none => v = .nilIface
  | some (code, pl) => ∃ ge, v = .iface 92 (.pointer (some ⟨ge, 0, none⟩)) ∧ Blk w ge 94 #[.int .i64 pl, .iface 81 (.int .i64 code)]
/-- A Reader of the bytes bs, in block g. -/
def IsR (w : World) (g : Nat) (bs : List UInt8) (at_ : Nat) (er : Option (Int × Int)) : Prop :=
  ∃ A c ev, Blk w g 79 #[.slice A bs.length c, .int .i64 (at_ : Int), ev] ∧ Reads w w.heap.size 1 A bs.length (bs.map bv) ∧ (0 < bs.length → ∀ ad, A = some ad → ad.block ≠ g) ∧ bs.length ≤ c ∧ c ≤ maxLen ∧
    ErrIs w ev er ∧ at_ ≤ bs.length ∧ bs.length ≤ 1099511627776
theorem ErrIs.fr {w w' : World} {F : Nat → Prop} {v : Value} {er : Option (Int × Int)} (h : ErrIs w v er) (hf : Fr F w w') (hn : ∀ k cs, Blk w k 94 cs → ¬ F k) : ErrIs w' v er := by
  match er, h with
  | none, h => exact h
  | some (code, pl), ⟨ge, h1, h2⟩ => exact ⟨ge, h1, h2.fr hf (hn _ _ h2)⟩
theorem IsR.fr {w w' : World} {F : Nat → Prop} {g : Nat} {bs : List UInt8} {at_ : Nat} {er : Option (Int × Int)} (h : IsR w g bs at_ er) (hf : Fr F w w') (hg : ¬ F g) (hn : ∀ k cs, Blk w k 94 cs → ¬ F k)
    (hb : ∀ k b o, k < bs.length → w.cell? ⟨b, o, none⟩ = some (bv (bs.getD k 0)) → ¬ F b) : IsR w' g bs at_ er := by
  obtain ⟨A, c, ev, h1, h2, h3, h4, h5, h6, h7, h8⟩ := h
  refine ⟨A, c, ev, h1.fr hf hg, ?_, h3, h4, h5, h6.fr hf hn, h7, h8⟩
  refine (h2.fr' hf (Nat.le_refl _) fun h0 ad ha hF => ?_).more hf.size
  obtain ⟨b, o, e, _, hc⟩ := h2.map_at (k := 0) h0
  rw [ha] at e
  injection e with e
  subst e
  exact hb 0 b (o + 0) h0 (by rw [hc]; simp [List.getD, h0]) hF
theorem IsR.upd {w w' : World} {g : Nat} {bs : List UInt8} {at_ : Nat} {er : Option (Int × Int)} {A : Option Addr} {c : Nat} {ev : Value} (h2 : Reads w w.heap.size 1 A bs.length (bs.map bv)) (h3 : 0 < bs.length → ∀ ad, A = some ad → ad.block ≠ g) (h4 : bs.length ≤ c) (h5 : c ≤ maxLen)
    (h8 : bs.length ≤ 1099511627776) (hf : Fr (fun k => k = g) w w') (hb : Blk w' g 79 #[.slice A bs.length c, .int .i64 (at_ : Int), ev]) (he : ErrIs w' ev er) (ha : at_ ≤ bs.length) : IsR w' g bs at_ er :=
  ⟨A, c, ev, hb, (h2.fr' hf (Nat.le_refl _) h3).more hf.size, h3, h4, h5, he, ha, h8⟩
theorem IsR.below {w w' : World} {g : Nat} {bs : List UInt8} {at_ : Nat} {er : Option (Int × Int)} (h : IsR w g bs at_ er) (hf : Below w.heap.size w w') : IsR w' g bs at_ er :=
  h.fr (Fr.of_below' hf (fun _ => False)) id (fun _ _ _ => id) (fun _ _ _ _ _ => id)
theorem IsR.drewN {w : World} {g : Nat} {bs : List UInt8} {at_ : Nat} {er : Option (Int × Int)} (h : IsR w g bs at_ er) (n : Nat) : IsR (w.drewN n) g bs at_ er := h

set_option maxHeartbeats 400000 in
theorem wrap_calls (code pl : Int) (w : World) :
    Calls Try.prog 57 #[.iface 81 (.int .i64 code), .int .i64 pl] w (fun e w' => e = .returned (.iface 92 (.pointer (some ⟨w.heap.size, 0, none⟩))) ∧ w' = w.alloc (.cells #[.int .i64 pl, .iface 81 (.int .i64 code)] 94)) := by
  go_enter Try.func57, Try.ntmps57
  go_wp2
  go_ret
  exact ⟨rfl, rfl⟩

def RPost (g : Nat) (bs : List UInt8) (at_ : Nat) (er : Option (Int × Int)) (w : World) (e : Ending) (w' : World) : Prop := e = .returned (.tuple #[]) ∧ IsR w' g bs at_ er ∧ Fr (fun k => k = g) w w'

section
variable (g : Nat) (bs : List UInt8) (at_ : Nat) (w : World)
set_option maxHeartbeats 400000 in
theorem fail_none (code : Int) (hc : (code == 0) = false) (h : IsR w g bs at_ none) :
    Calls Try.prog 63 #[.pointer (some ⟨g, 0, none⟩), .int .i64 code] w (RPost g bs at_ (some (code, at_)) w) := by
  obtain ⟨A, c, ev, h1, h2, h3, h4, h5, rfl, h7, h8⟩ := h
  have c1 : w.cell? ⟨g, 1, none⟩ = some (.int .i64 at_) := h1.cell 1
  have c2 : w.cell? ⟨g, 2, none⟩ = some .nilIface := h1.cell 2
  have c3 : w.frozen? ⟨g, 2, none⟩ = false := h1.frozen 2
  have hlt := h1.lt
  have hx : (code != 0) = true := by simpa using hc
  have H := hide (And.intro h1 (And.intro h2 (And.intro h3 (And.intro h4 (And.intro h5 (And.intro h7 h8))))))
  clear h1 h2 h3 h4 h5 h7 h8
  go_enter Try.func63, Try.ntmps63
  go_wp2_with fail
  refine (wrap_calls code at_ w).mono ?_
  rintro e w1 ⟨rfl, rfl⟩
  go_wp2
  go_end0
  obtain ⟨h1, h2, h3, h4, h5, h7, h8⟩ := H.out
  have hf := ((Fr.refl (fun k => k = g) w).setCell (p := ⟨g, 2, none⟩) (.inl rfl) (.iface 92 (.pointer (some ⟨w.heap.size, 0, none⟩)))).alloc (.cells #[.int .i64 at_, .iface 81 (.int .i64 code)] 94)
  refine ⟨rfl, IsR.upd h2 h3 h4 h5 h8 hf ((h1.set_ 2 _).alloc _) ⟨w.heap.size, rfl, ?_⟩ h7, hf⟩
  have := Blk.new (w.setCell ⟨g, 2, none⟩ (.iface 92 (.pointer (some ⟨w.heap.size, 0, none⟩)))) 94 #[.int .i64 at_, .iface 81 (.int .i64 code)]
  rwa [World.size_setCell] at this
set_option maxHeartbeats 400000 in
theorem fail_zero (h : IsR w g bs at_ none) :
    Calls Try.prog 63 #[.pointer (some ⟨g, 0, none⟩), .int .i64 0] w (RPost g bs at_ none w) := by
  have H := hide h
  obtain ⟨A, c, ev, h1, h2, h3, h4, h5, rfl, h7, h8⟩ := h
  have c2 : w.cell? ⟨g, 2, none⟩ = some .nilIface := h1.cell 2
  clear h1 h2 h3 h4 h5 h7 h8
  go_enter Try.func63, Try.ntmps63
  go_wp2
  go_end0
  exact ⟨rfl, H.out, Fr.refl _ _⟩
set_option maxHeartbeats 400000 in
theorem fail_some (code : Int) (x : Int × Int) (h : IsR w g bs at_ (some x)) :
    Calls Try.prog 63 #[.pointer (some ⟨g, 0, none⟩), .int .i64 code] w (RPost g bs at_ (some x) w) := by
  have H := hide h
  obtain ⟨A, c, ev, h1, h2, h3, h4, h5, ⟨ge, rfl, _⟩, h7, h8⟩ := h
  have c2 : w.cell? ⟨g, 2, none⟩ = some (.iface 92 (.pointer (some ⟨ge, 0, none⟩))) := h1.cell 2
  clear h1 h2 h3 h4 h5 h7 h8
  go_enter Try.func63, Try.ntmps63
  go_wp2
  go_end0
  exact ⟨rfl, H.out, Fr.refl _ _⟩
/-- What Fail makes of an error. -/
def failed (er : Option (Int × Int)) (code at_ : Int) : Option (Int × Int) := match er with
  | none => if code = 0 then none else some (code, at_)
  | some x => some x
theorem fail_calls (code : Int) (er : Option (Int × Int)) (h : IsR w g bs at_ er) :
    Calls Try.prog 63 #[.pointer (some ⟨g, 0, none⟩), .int .i64 code] w (RPost g bs at_ (failed er code at_) w) := by
  match er, h with
  | some x, h => exact fail_some g bs at_ w code x h
  | none, h =>
    by_cases hc : code = 0
    · subst hc
      exact fail_zero g bs at_ w h
    · have : failed none code at_ = some (code, (at_ : Int)) := by simp [failed, hc]
      rw [this]
      exact fail_none g bs at_ w code (by simpa using hc) h

/-- A reading function: it answers n and code of the bytes l, and P holds of the world behind it. -/
def KPost (n : Nat) (code : Int) (P : World → Prop) (e : Ending) (w' : World) : Prop := e = .returned (.tuple #[.int .i64 n, .int .i64 code]) ∧ P w'

set_option maxHeartbeats 400000 in
theorem field_err (K : FuncId) (caps : Array Value) (x : Int × Int) (h : IsR w g bs at_ (some x)) :
    Calls Try.prog 53 #[.pointer (some ⟨g, 0, none⟩), .func (.func K) #[] caps] w (RPost g bs at_ (some x) w) := by
  have H := hide h
  obtain ⟨A, c, ev, h1, h2, h3, h4, h5, ⟨ge, rfl, _⟩, h7, h8⟩ := h
  have c2 : w.cell? ⟨g, 2, none⟩ = some (.iface 92 (.pointer (some ⟨ge, 0, none⟩))) := h1.cell 2
  clear h1 h2 h3 h4 h5 h7 h8
  go_enter Try.func53, Try.ntmps53
  go_wp2
  go_end0
  exact ⟨rfl, H.out, Fr.refl _ _⟩

end
end Go.Proofs.Ytidohbnmkogkmaa
