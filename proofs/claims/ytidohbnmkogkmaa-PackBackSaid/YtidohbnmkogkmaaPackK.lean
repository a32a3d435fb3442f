/- The readers' own functions (Byte, Number, Int, Bool, Bytes, Text, Raw, Err, End): what each call answers. Conditions: lengths below 2^40. -/
import Derived.Test.YtidohbnmkogkmaaPackF
namespace Go.Proofs.Ytidohbnmkogkmaa
open Go.RowKit

/-- What a reader answers for a number: the value, the place, the error. -/
def rNum (bs : List UInt8) (at_ : Nat) (er : Option (Int × Int)) (most : Nat) : Nat × Nat × Option (Int × Int) := match er with
  | some x => (0, at_, some x)
  | none => match numP (bs.drop at_) with
    | none => (0, at_, some (2, at_))
    | some (v, s) => if most < v then (0, at_, some (15, at_)) else (v, at_ + s, none)

theorem fr_g {w w1 w' : World} {g : Nat} (h : Below w.heap.size w w1) (hf : Fr (fun k => k = g) w1 w') : Fr (fun k => k = g) w w' :=
  (Fr.of_below' h _).trans (hf.mono fun _ _ h => .inl h)

set_option maxHeartbeats 400000 in
theorem numberK_bad (l : List UInt8) (A : Option Addr) (c B pm po : Nat) (w : World) (hr : Reads w B 1 A l.length (l.map bv)) (hl : l.length ≤ 1099511627776)
    (ho : Blk w po 37 #[.int .u64 0]) (hn : numP l = none) :
    Calls Try.prog 54 #[.slice A l.length c, .pointer (some ⟨pm, 0, none⟩), .pointer (some ⟨po, 0, none⟩)] w (KPost 0 2 fun w1 => w1 = w.setCell ⟨po, 0, none⟩ (.int .u64 0)) := by
  have c1 : w.cell? ⟨po, 0, none⟩ = some (.int .u64 0) := ho.cell 0
  have c2 : w.frozen? ⟨po, 0, none⟩ = false := ho.frozen 0
  have HN := hide hn
  have HO := hide ho
  clear hn ho
  go_enter Try.func54, Try.ntmps54
  go_wp2_with fail
  refine (packNumber_calls l A c B _ hr hl).mono ?_
  rintro e w1 ⟨rfl, rfl⟩
  rw [HN.out]
  simp only [numRet]
  go_wp2
  go_ret2
  exact ⟨rfl, rfl⟩
set_option maxHeartbeats 400000 in
theorem numberK_more (l : List UInt8) (A : Option Addr) (c B pm po most v s : Nat) (w : World) (hr : Reads w B 1 A l.length (l.map bv)) (hl : l.length ≤ 1099511627776)
    (hm : w.cell? ⟨pm, 0, none⟩ = some (.int .u64 most)) (hn : numP l = some (v, s)) (hv : most < v) :
    Calls Try.prog 54 #[.slice A l.length c, .pointer (some ⟨pm, 0, none⟩), .pointer (some ⟨po, 0, none⟩)] w (KPost 0 15 fun w1 => w1 = w) := by
  have HN := hide hn
  clear hn
  go_enter Try.func54, Try.ntmps54
  go_wp2_with fail
  refine (packNumber_calls l A c B _ hr hl).mono ?_
  rintro e w1 ⟨rfl, rfl⟩
  rw [HN.out]
  simp only [numRet]
  have hd : decide ((most : Int) < (v : Int)) = true := by simp; omega
  go_wp2
  go_ret2
  exact ⟨rfl, rfl⟩
set_option maxHeartbeats 400000 in
theorem numberK_ok (l : List UInt8) (A : Option Addr) (c B pm po most v s : Nat) (w : World) (hr : Reads w B 1 A l.length (l.map bv)) (hl : l.length ≤ 1099511627776)
    (hm : w.cell? ⟨pm, 0, none⟩ = some (.int .u64 most)) (ho : Blk w po 37 #[.int .u64 0]) (hn : numP l = some (v, s)) (hv : ¬ most < v) :
    Calls Try.prog 54 #[.slice A l.length c, .pointer (some ⟨pm, 0, none⟩), .pointer (some ⟨po, 0, none⟩)] w (KPost s 0 fun w1 => w1 = w.setCell ⟨po, 0, none⟩ (.int .u64 v)) := by
  have c1 : w.cell? ⟨po, 0, none⟩ = some (.int .u64 0) := ho.cell 0
  have c2 : w.frozen? ⟨po, 0, none⟩ = false := ho.frozen 0
  have HN := hide hn
  have HO := hide ho
  clear hn ho
  go_enter Try.func54, Try.ntmps54
  go_wp2_with fail
  refine (packNumber_calls l A c B _ hr hl).mono ?_
  rintro e w1 ⟨rfl, rfl⟩
  rw [HN.out]
  simp only [numRet]
  have hd : decide ((most : Int) < (v : Int)) = false := by simp; omega
  go_wp2
  go_ret2
  exact ⟨rfl, rfl⟩

def NumPost (g : Nat) (bs : List UInt8) (r : Nat × Nat × Option (Int × Int)) (w : World) (e : Ending) (w' : World) : Prop :=
  e = .returned (.int .u64 r.1) ∧ IsR w' g bs r.2.1 r.2.2 ∧ Fr (fun k => k = g) w w'
section
variable (g : Nat) (bs : List UInt8) (at_ : Nat) (w : World)
/-- The world of Number's variables. -/
def W2 (w : World) (t1 t2 : TypeId) (a b : Value) : World := (w.alloc (.cells #[a] t1)).alloc (.cells #[b] t2)
theorem W2.below (t1 t2 : TypeId) (a b : Value) : Below w.heap.size w (W2 w t1 t2 a b) := ((Below.refl _ _).alloc (Nat.le_refl _) _).alloc (by simp) _
theorem W2.blk1 (t1 t2 : TypeId) (a b : Value) : Blk (W2 w t1 t2 a b) w.heap.size t1 #[a] := (Blk.new w t1 #[a]).alloc _
theorem W2.blk2 (t1 t2 : TypeId) (a b : Value) : Blk (W2 w t1 t2 a b) (w.heap.size + 1) t2 #[b] := by
  have := Blk.new (w.alloc (.cells #[a] t1)) t2 #[b]
  rwa [World.size_alloc] at this
theorem W2.size (t1 t2 : TypeId) (a b : Value) : (W2 w t1 t2 a b).heap.size = w.heap.size + 2 := by simp [W2]

/-- A read: the value, the reader behind it. -/
def RdPost (g : Nat) (bs : List UInt8) (at' : Nat) (er' : Option (Int × Int)) (Ψ : Value → World → Prop) (w : World) (e : Ending) (w' : World) : Prop :=
  ∃ v, e = .returned v ∧ Ψ v w' ∧ IsR w' g bs at' er' ∧ Fr (fun k => k = g) w w'

set_option maxHeartbeats 400000 in
theorem rNumber_err (most : Nat) (x : Int × Int) (h : IsR w g bs at_ (some x)) :
    Calls Try.prog 29 #[.pointer (some ⟨g, 0, none⟩), .int .u64 most] w (RdPost g bs at_ (some x) (fun v _ => v = .int .u64 0) w) := by
  have HW := hide (W2.below w 37 37 (.int .u64 most) (.int .u64 0))
  have HR := hide (h.below HW.out)
  have HB := hide (W2.blk2 w 37 37 (.int .u64 most) (.int .u64 0))
  have hg : g < w.heap.size := by obtain ⟨_, _, _, hb, _⟩ := h; exact hb.lt
  clear h
  go_enter Try.func29, Try.ntmps29
  go_wp2_with fail
  refine (field_err g bs at_ _ _ _ x HR.out).mono ?_
  rintro e w1 ⟨rfl, hr, hf⟩
  have hb1 := HB.out.fr hf (by omega)
  have c1 : w1.cell? ⟨w.heap.size + 1, 0, none⟩ = some (.int .u64 0) := hb1.cell 0
  have HR1 := hide hr
  have HF1 := hide (fr_g HW.out hf)
  clear hr hf hb1
  go_wp2
  go_ret
  exact ⟨_, rfl, rfl, HR1.out, HF1.out⟩
set_option maxHeartbeats 400000 in
theorem rNumber_none (most : Nat) (Ψ : Value → World → Prop) (hΨ : ∀ v a b, Ψ v a → w.heap.size ≤ a.heap.size → Fr (fun k => k = g) a b → Ψ v b) (h : IsR w g bs at_ none) (n : Nat) (code : Int) (at' : Nat) (er' : Option (Int × Int)) (hc : (code = 0 ∧ at' = at_ + n ∧ at' ≤ bs.length ∧ er' = none) ∨ (code ≠ 0 ∧ at' = at_ ∧ er' = some (code, (at_ : Int))))
    (hk : ∀ A' c', Reads (W2 w 37 37 (.int .u64 most) (.int .u64 0)).drew (w.heap.size + 2) 1 A' (bs.drop at_).length ((bs.drop at_).map bv) → (bs.drop at_).length ≤ c' → c' ≤ maxLen →
      Calls Try.prog 54 #[.slice A' (bs.drop at_).length c', .pointer (some ⟨w.heap.size, 0, none⟩), .pointer (some ⟨w.heap.size + 1, 0, none⟩)] (W2 w 37 37 (.int .u64 most) (.int .u64 0)).drew
        (KPost n code fun w1 => ∃ v, Blk w1 (w.heap.size + 1) 37 #[v] ∧ Ψ v w1 ∧ Below w.heap.size w w1)) :
    Calls Try.prog 29 #[.pointer (some ⟨g, 0, none⟩), .int .u64 most] w (RdPost g bs at' er' Ψ w) := by
  have HW := hide (W2.below w 37 37 (.int .u64 most) (.int .u64 0))
  have HR := hide (h.below HW.out)
  have H := hide h
  have hg : g < w.heap.size := by obtain ⟨_, _, _, hb, _⟩ := h; exact hb.lt
  have HK := hide hk
  have HC := hide hc
  have HP := hide hΨ
  have hKs : ∀ args W, (callFunc 54 args).run Try.prog W = .ok (.enter 54 args) W := fun _ _ => by kernel_rfl
  have HKS := hide hKs
  clear h hk hc hKs hΨ
  go_enter Try.func29, Try.ntmps29
  go_wp2_with fail
  have key : ∀ W, W = (W2 w 37 37 (.int .u64 most) (.int .u64 0)) → Calls Try.prog 53 #[.pointer (some ⟨g, 0, none⟩), .func (.func 54) #[] #[.pointer (some ⟨w.heap.size, 0, none⟩), .pointer (some ⟨w.heap.size + 1, 0, none⟩)]] W
      (fun e w' => e = .returned (.tuple #[]) ∧ ∃ w1, (∃ v, Blk w1 (w.heap.size + 1) 37 #[v] ∧ Ψ v w1 ∧ Below w.heap.size w w1) ∧ Fr (fun k => k = g) w1 w' ∧ IsR w' g bs at' er') := by
    rintro W rfl
    have hlen : (bs.drop at_).length = bs.length - at_ := by simp
    have hkk := HK.out
    rw [hlen] at hkk
    rcases HC.out with ⟨rfl, rfl, hle, rfl⟩ | ⟨hne, rfl, rfl⟩
    · exact field_ok0_2 g bs at_ _ _ _ _ n _ HR.out hle HKS.out (fun A' c' hr h1 h2 => hkk A' c' (by rwa [W2.size] at hr) h1 h2) (fun w1 ⟨_, _, _, hw1⟩ => H.out.below hw1)
    · exact field_okC_2 g bs at' _ _ _ _ n code _ (by simpa using hne) HR.out HKS.out (fun A' c' hr h1 h2 => hkk A' c' (by rwa [W2.size] at hr) h1 h2) (fun w1 ⟨_, _, _, hw1⟩ => H.out.below hw1)
  refine (key _ rfl).mono ?_
  rintro e w2 ⟨rfl, w1, ⟨v, hb1, hv, hbl⟩, hf, hr⟩
  have hb2 := hb1.fr hf (by omega)
  have c1 : w2.cell? ⟨w.heap.size + 1, 0, none⟩ = some v := hb2.cell 0
  have HR1 := hide hr
  have HF1 := hide (fr_g hbl hf)
  have HV := hide (HP.out v w1 w2 hv hbl.size hf)
  clear hr hf hb1 hb2 hbl key hv
  go_wp2
  go_ret
  exact ⟨v, ret_eq rfl, HV.out, HR1.out, HF1.out⟩


set_option maxHeartbeats 400000 in
theorem rBytes_err (most : Int) (x : Int × Int) (h : IsR w g bs at_ (some x)) :
    Calls Try.prog 35 #[.pointer (some ⟨g, 0, none⟩), .int .i64 most] w (RdPost g bs at_ (some x) (fun v _ => v = .slice none 0 0) w) := by
  have HW := hide (W2.below w 3 23 (.int .i64 most) (.slice none 0 0))
  have HR := hide (h.below HW.out)
  have HB := hide (W2.blk2 w 3 23 (.int .i64 most) (.slice none 0 0))
  have hg : g < w.heap.size := by obtain ⟨_, _, _, hb, _⟩ := h; exact hb.lt
  clear h
  go_enter Try.func35, Try.ntmps35
  go_wp2_with fail
  refine (field_err g bs at_ _ _ _ x HR.out).mono ?_
  rintro e w1 ⟨rfl, hr, hf⟩
  have hb1 := HB.out.fr hf (by omega)
  have c1 : w1.cell? ⟨w.heap.size + 1, 0, none⟩ = some (.slice none 0 0) := hb1.cell 0
  have HR1 := hide hr
  have HF1 := hide (fr_g HW.out hf)
  clear hr hf hb1
  go_wp2
  go_ret
  exact ⟨_, rfl, rfl, HR1.out, HF1.out⟩
set_option maxHeartbeats 400000 in
theorem rBytes_none (most : Int) (Ψ : Value → World → Prop) (hΨ : ∀ v a b, Ψ v a → w.heap.size ≤ a.heap.size → Fr (fun k => k = g) a b → Ψ v b) (h : IsR w g bs at_ none) (n : Nat) (code : Int) (at' : Nat) (er' : Option (Int × Int)) (hc : (code = 0 ∧ at' = at_ + n ∧ at' ≤ bs.length ∧ er' = none) ∨ (code ≠ 0 ∧ at' = at_ ∧ er' = some (code, (at_ : Int))))
    (hk : ∀ A' c', Reads (W2 w 3 23 (.int .i64 most) (.slice none 0 0)).drew (w.heap.size + 2) 1 A' (bs.drop at_).length ((bs.drop at_).map bv) → (bs.drop at_).length ≤ c' → c' ≤ maxLen →
      Calls Try.prog 60 #[.slice A' (bs.drop at_).length c', .pointer (some ⟨w.heap.size, 0, none⟩), .pointer (some ⟨w.heap.size + 1, 0, none⟩)] (W2 w 3 23 (.int .i64 most) (.slice none 0 0)).drew
        (KPost n code fun w1 => ∃ v, Blk w1 (w.heap.size + 1) 23 #[v] ∧ Ψ v w1 ∧ Below w.heap.size w w1)) :
    Calls Try.prog 35 #[.pointer (some ⟨g, 0, none⟩), .int .i64 most] w (RdPost g bs at' er' Ψ w) := by
  have HW := hide (W2.below w 3 23 (.int .i64 most) (.slice none 0 0))
  have HR := hide (h.below HW.out)
  have H := hide h
  have hg : g < w.heap.size := by obtain ⟨_, _, _, hb, _⟩ := h; exact hb.lt
  have HK := hide hk
  have HC := hide hc
  have HP := hide hΨ
  have hKs : ∀ args W, (callFunc 60 args).run Try.prog W = .ok (.enter 60 args) W := fun _ _ => by kernel_rfl
  have HKS := hide hKs
  clear h hk hc hKs hΨ
  go_enter Try.func35, Try.ntmps35
  go_wp2_with fail
  have key : ∀ W, W = (W2 w 3 23 (.int .i64 most) (.slice none 0 0)) → Calls Try.prog 53 #[.pointer (some ⟨g, 0, none⟩), .func (.func 60) #[] #[.pointer (some ⟨w.heap.size, 0, none⟩), .pointer (some ⟨w.heap.size + 1, 0, none⟩)]] W
      (fun e w' => e = .returned (.tuple #[]) ∧ ∃ w1, (∃ v, Blk w1 (w.heap.size + 1) 23 #[v] ∧ Ψ v w1 ∧ Below w.heap.size w w1) ∧ Fr (fun k => k = g) w1 w' ∧ IsR w' g bs at' er') := by
    rintro W rfl
    have hlen : (bs.drop at_).length = bs.length - at_ := by simp
    have hkk := HK.out
    rw [hlen] at hkk
    rcases HC.out with ⟨rfl, rfl, hle, rfl⟩ | ⟨hne, rfl, rfl⟩
    · exact field_ok0_2 g bs at_ _ _ _ _ n _ HR.out hle HKS.out (fun A' c' hr h1 h2 => hkk A' c' (by rwa [W2.size] at hr) h1 h2) (fun w1 ⟨_, _, _, hw1⟩ => H.out.below hw1)
    · exact field_okC_2 g bs at' _ _ _ _ n code _ (by simpa using hne) HR.out HKS.out (fun A' c' hr h1 h2 => hkk A' c' (by rwa [W2.size] at hr) h1 h2) (fun w1 ⟨_, _, _, hw1⟩ => H.out.below hw1)
  refine (key _ rfl).mono ?_
  rintro e w2 ⟨rfl, w1, ⟨v, hb1, hv, hbl⟩, hf, hr⟩
  have hb2 := hb1.fr hf (by omega)
  have c1 : w2.cell? ⟨w.heap.size + 1, 0, none⟩ = some v := hb2.cell 0
  have HR1 := hide hr
  have HF1 := hide (fr_g hbl hf)
  have HV := hide (HP.out v w1 w2 hv hbl.size hf)
  clear hr hf hb1 hb2 hbl key hv
  go_wp2
  go_ret
  exact ⟨v, ret_eq rfl, HV.out, HR1.out, HF1.out⟩


set_option maxHeartbeats 400000 in
theorem rRaw_err (most : Int) (x : Int × Int) (h : IsR w g bs at_ (some x)) :
    Calls Try.prog 37 #[.pointer (some ⟨g, 0, none⟩), .int .i64 most] w (RdPost g bs at_ (some x) (fun v _ => v = .slice none 0 0) w) := by
  have HW := hide (W2.below w 3 23 (.int .i64 most) (.slice none 0 0))
  have HR := hide (h.below HW.out)
  have HB := hide (W2.blk2 w 3 23 (.int .i64 most) (.slice none 0 0))
  have hg : g < w.heap.size := by obtain ⟨_, _, _, hb, _⟩ := h; exact hb.lt
  clear h
  go_enter Try.func37, Try.ntmps37
  go_wp2_with fail
  refine (field_err g bs at_ _ _ _ x HR.out).mono ?_
  rintro e w1 ⟨rfl, hr, hf⟩
  have hb1 := HB.out.fr hf (by omega)
  have c1 : w1.cell? ⟨w.heap.size + 1, 0, none⟩ = some (.slice none 0 0) := hb1.cell 0
  have HR1 := hide hr
  have HF1 := hide (fr_g HW.out hf)
  clear hr hf hb1
  go_wp2
  go_ret
  exact ⟨_, rfl, rfl, HR1.out, HF1.out⟩
set_option maxHeartbeats 400000 in
theorem rRaw_none (most : Int) (Ψ : Value → World → Prop) (hΨ : ∀ v a b, Ψ v a → w.heap.size ≤ a.heap.size → Fr (fun k => k = g) a b → Ψ v b) (h : IsR w g bs at_ none) (n : Nat) (code : Int) (at' : Nat) (er' : Option (Int × Int)) (hc : (code = 0 ∧ at' = at_ + n ∧ at' ≤ bs.length ∧ er' = none) ∨ (code ≠ 0 ∧ at' = at_ ∧ er' = some (code, (at_ : Int))))
    (hk : ∀ A' c', Reads (W2 w 3 23 (.int .i64 most) (.slice none 0 0)).drew (w.heap.size + 2) 1 A' (bs.drop at_).length ((bs.drop at_).map bv) → (bs.drop at_).length ≤ c' → c' ≤ maxLen →
      Calls Try.prog 61 #[.slice A' (bs.drop at_).length c', .pointer (some ⟨w.heap.size, 0, none⟩), .pointer (some ⟨w.heap.size + 1, 0, none⟩)] (W2 w 3 23 (.int .i64 most) (.slice none 0 0)).drew
        (KPost n code fun w1 => ∃ v, Blk w1 (w.heap.size + 1) 23 #[v] ∧ Ψ v w1 ∧ Below w.heap.size w w1)) :
    Calls Try.prog 37 #[.pointer (some ⟨g, 0, none⟩), .int .i64 most] w (RdPost g bs at' er' Ψ w) := by
  have HW := hide (W2.below w 3 23 (.int .i64 most) (.slice none 0 0))
  have HR := hide (h.below HW.out)
  have H := hide h
  have hg : g < w.heap.size := by obtain ⟨_, _, _, hb, _⟩ := h; exact hb.lt
  have HK := hide hk
  have HC := hide hc
  have HP := hide hΨ
  have hKs : ∀ args W, (callFunc 61 args).run Try.prog W = .ok (.enter 61 args) W := fun _ _ => by kernel_rfl
  have HKS := hide hKs
  clear h hk hc hKs hΨ
  go_enter Try.func37, Try.ntmps37
  go_wp2_with fail
  have key : ∀ W, W = (W2 w 3 23 (.int .i64 most) (.slice none 0 0)) → Calls Try.prog 53 #[.pointer (some ⟨g, 0, none⟩), .func (.func 61) #[] #[.pointer (some ⟨w.heap.size, 0, none⟩), .pointer (some ⟨w.heap.size + 1, 0, none⟩)]] W
      (fun e w' => e = .returned (.tuple #[]) ∧ ∃ w1, (∃ v, Blk w1 (w.heap.size + 1) 23 #[v] ∧ Ψ v w1 ∧ Below w.heap.size w w1) ∧ Fr (fun k => k = g) w1 w' ∧ IsR w' g bs at' er') := by
    rintro W rfl
    have hlen : (bs.drop at_).length = bs.length - at_ := by simp
    have hkk := HK.out
    rw [hlen] at hkk
    rcases HC.out with ⟨rfl, rfl, hle, rfl⟩ | ⟨hne, rfl, rfl⟩
    · exact field_ok0_2 g bs at_ _ _ _ _ n _ HR.out hle HKS.out (fun A' c' hr h1 h2 => hkk A' c' (by rwa [W2.size] at hr) h1 h2) (fun w1 ⟨_, _, _, hw1⟩ => H.out.below hw1)
    · exact field_okC_2 g bs at' _ _ _ _ n code _ (by simpa using hne) HR.out HKS.out (fun A' c' hr h1 h2 => hkk A' c' (by rwa [W2.size] at hr) h1 h2) (fun w1 ⟨_, _, _, hw1⟩ => H.out.below hw1)
  refine (key _ rfl).mono ?_
  rintro e w2 ⟨rfl, w1, ⟨v, hb1, hv, hbl⟩, hf, hr⟩
  have hb2 := hb1.fr hf (by omega)
  have c1 : w2.cell? ⟨w.heap.size + 1, 0, none⟩ = some v := hb2.cell 0
  have HR1 := hide hr
  have HF1 := hide (fr_g hbl hf)
  have HV := hide (HP.out v w1 w2 hv hbl.size hf)
  clear hr hf hb1 hb2 hbl key hv
  go_wp2
  go_ret
  exact ⟨v, ret_eq rfl, HV.out, HR1.out, HF1.out⟩


set_option maxHeartbeats 400000 in
theorem rByte_err  (x : Int × Int) (h : IsR w g bs at_ (some x)) :
    Calls Try.prog 32 #[.pointer (some ⟨g, 0, none⟩)] w (RdPost g bs at_ (some x) (fun v _ => v = .int .u8 0) w) := by
  have HW := hide ((Below.refl w.heap.size w).alloc (Nat.le_refl _) (.cells #[.int .u8 0] 5))
  have HR := hide (h.below HW.out)
  have HB := hide (Blk.new w 5 #[.int .u8 0])
  have hg : g < w.heap.size := by obtain ⟨_, _, _, hb, _⟩ := h; exact hb.lt
  clear h
  go_enter Try.func32, Try.ntmps32
  go_wp2_with fail
  refine (field_err g bs at_ _ _ _ x HR.out).mono ?_
  rintro e w1 ⟨rfl, hr, hf⟩
  have hb1 := HB.out.fr hf (by omega)
  have c1 : w1.cell? ⟨w.heap.size, 0, none⟩ = some (.int .u8 0) := hb1.cell 0
  have HR1 := hide hr
  have HF1 := hide (fr_g HW.out hf)
  clear hr hf hb1
  go_wp2
  go_ret
  exact ⟨_, rfl, rfl, HR1.out, HF1.out⟩
set_option maxHeartbeats 400000 in
theorem rByte_none  (Ψ : Value → World → Prop) (hΨ : ∀ v a b, Ψ v a → w.heap.size ≤ a.heap.size → Fr (fun k => k = g) a b → Ψ v b) (h : IsR w g bs at_ none) (n : Nat) (code : Int) (at' : Nat) (er' : Option (Int × Int)) (hc : (code = 0 ∧ at' = at_ + n ∧ at' ≤ bs.length ∧ er' = none) ∨ (code ≠ 0 ∧ at' = at_ ∧ er' = some (code, (at_ : Int))))
    (hk : ∀ A' c', Reads (w.alloc (.cells #[.int .u8 0] 5)).drew (w.heap.size + 1) 1 A' (bs.drop at_).length ((bs.drop at_).map bv) → (bs.drop at_).length ≤ c' → c' ≤ maxLen →
      Calls Try.prog 58 #[.slice A' (bs.drop at_).length c', .pointer (some ⟨w.heap.size, 0, none⟩)] (w.alloc (.cells #[.int .u8 0] 5)).drew
        (KPost n code fun w1 => ∃ v, Blk w1 (w.heap.size) 5 #[v] ∧ Ψ v w1 ∧ Below w.heap.size w w1)) :
    Calls Try.prog 32 #[.pointer (some ⟨g, 0, none⟩)] w (RdPost g bs at' er' Ψ w) := by
  have HW := hide ((Below.refl w.heap.size w).alloc (Nat.le_refl _) (.cells #[.int .u8 0] 5))
  have HR := hide (h.below HW.out)
  have H := hide h
  have hg : g < w.heap.size := by obtain ⟨_, _, _, hb, _⟩ := h; exact hb.lt
  have HK := hide hk
  have HC := hide hc
  have HP := hide hΨ
  have hKs : ∀ args W, (callFunc 58 args).run Try.prog W = .ok (.enter 58 args) W := fun _ _ => by kernel_rfl
  have HKS := hide hKs
  clear h hk hc hKs hΨ
  go_enter Try.func32, Try.ntmps32
  go_wp2_with fail
  have key : ∀ W, W = (w.alloc (.cells #[.int .u8 0] 5)) → Calls Try.prog 53 #[.pointer (some ⟨g, 0, none⟩), .func (.func 58) #[] #[.pointer (some ⟨w.heap.size, 0, none⟩)]] W
      (fun e w' => e = .returned (.tuple #[]) ∧ ∃ w1, (∃ v, Blk w1 (w.heap.size) 5 #[v] ∧ Ψ v w1 ∧ Below w.heap.size w w1) ∧ Fr (fun k => k = g) w1 w' ∧ IsR w' g bs at' er') := by
    rintro W rfl
    have hlen : (bs.drop at_).length = bs.length - at_ := by simp
    have hkk := HK.out
    rw [hlen] at hkk
    rcases HC.out with ⟨rfl, rfl, hle, rfl⟩ | ⟨hne, rfl, rfl⟩
    · exact field_ok0_1 g bs at_ _ _ _ n _ HR.out hle HKS.out (fun A' c' hr h1 h2 => hkk A' c' (by rwa [World.size_alloc] at hr) h1 h2) (fun w1 ⟨_, _, _, hw1⟩ => H.out.below hw1)
    · exact field_okC_1 g bs at' _ _ _ n code _ (by simpa using hne) HR.out HKS.out (fun A' c' hr h1 h2 => hkk A' c' (by rwa [World.size_alloc] at hr) h1 h2) (fun w1 ⟨_, _, _, hw1⟩ => H.out.below hw1)
  refine (key _ rfl).mono ?_
  rintro e w2 ⟨rfl, w1, ⟨v, hb1, hv, hbl⟩, hf, hr⟩
  have hb2 := hb1.fr hf (by omega)
  have c1 : w2.cell? ⟨w.heap.size, 0, none⟩ = some v := hb2.cell 0
  have HR1 := hide hr
  have HF1 := hide (fr_g hbl hf)
  have HV := hide (HP.out v w1 w2 hv hbl.size hf)
  clear hr hf hb1 hb2 hbl key hv
  go_wp2
  go_ret
  exact ⟨v, ret_eq rfl, HV.out, HR1.out, HF1.out⟩


set_option maxHeartbeats 400000 in
theorem rBool_err  (x : Int × Int) (h : IsR w g bs at_ (some x)) :
    Calls Try.prog 34 #[.pointer (some ⟨g, 0, none⟩)] w (RdPost g bs at_ (some x) (fun v _ => v = .bool false) w) := by
  have HW := hide ((Below.refl w.heap.size w).alloc (Nat.le_refl _) (.cells #[.bool false] 4))
  have HR := hide (h.below HW.out)
  have HB := hide (Blk.new w 4 #[.bool false])
  have hg : g < w.heap.size := by obtain ⟨_, _, _, hb, _⟩ := h; exact hb.lt
  clear h
  go_enter Try.func34, Try.ntmps34
  go_wp2_with fail
  refine (field_err g bs at_ _ _ _ x HR.out).mono ?_
  rintro e w1 ⟨rfl, hr, hf⟩
  have hb1 := HB.out.fr hf (by omega)
  have c1 : w1.cell? ⟨w.heap.size, 0, none⟩ = some (.bool false) := hb1.cell 0
  have HR1 := hide hr
  have HF1 := hide (fr_g HW.out hf)
  clear hr hf hb1
  go_wp2
  go_ret
  exact ⟨_, rfl, rfl, HR1.out, HF1.out⟩
set_option maxHeartbeats 400000 in
theorem rBool_none  (Ψ : Value → World → Prop) (hΨ : ∀ v a b, Ψ v a → w.heap.size ≤ a.heap.size → Fr (fun k => k = g) a b → Ψ v b) (h : IsR w g bs at_ none) (n : Nat) (code : Int) (at' : Nat) (er' : Option (Int × Int)) (hc : (code = 0 ∧ at' = at_ + n ∧ at' ≤ bs.length ∧ er' = none) ∨ (code ≠ 0 ∧ at' = at_ ∧ er' = some (code, (at_ : Int))))
    (hk : ∀ A' c', Reads (w.alloc (.cells #[.bool false] 4)).drew (w.heap.size + 1) 1 A' (bs.drop at_).length ((bs.drop at_).map bv) → (bs.drop at_).length ≤ c' → c' ≤ maxLen →
      Calls Try.prog 59 #[.slice A' (bs.drop at_).length c', .pointer (some ⟨w.heap.size, 0, none⟩)] (w.alloc (.cells #[.bool false] 4)).drew
        (KPost n code fun w1 => ∃ v, Blk w1 (w.heap.size) 4 #[v] ∧ Ψ v w1 ∧ Below w.heap.size w w1)) :
    Calls Try.prog 34 #[.pointer (some ⟨g, 0, none⟩)] w (RdPost g bs at' er' Ψ w) := by
  have HW := hide ((Below.refl w.heap.size w).alloc (Nat.le_refl _) (.cells #[.bool false] 4))
  have HR := hide (h.below HW.out)
  have H := hide h
  have hg : g < w.heap.size := by obtain ⟨_, _, _, hb, _⟩ := h; exact hb.lt
  have HK := hide hk
  have HC := hide hc
  have HP := hide hΨ
  have hKs : ∀ args W, (callFunc 59 args).run Try.prog W = .ok (.enter 59 args) W := fun _ _ => by kernel_rfl
  have HKS := hide hKs
  clear h hk hc hKs hΨ
  go_enter Try.func34, Try.ntmps34
  go_wp2_with fail
  have key : ∀ W, W = (w.alloc (.cells #[.bool false] 4)) → Calls Try.prog 53 #[.pointer (some ⟨g, 0, none⟩), .func (.func 59) #[] #[.pointer (some ⟨w.heap.size, 0, none⟩)]] W
      (fun e w' => e = .returned (.tuple #[]) ∧ ∃ w1, (∃ v, Blk w1 (w.heap.size) 4 #[v] ∧ Ψ v w1 ∧ Below w.heap.size w w1) ∧ Fr (fun k => k = g) w1 w' ∧ IsR w' g bs at' er') := by
    rintro W rfl
    have hlen : (bs.drop at_).length = bs.length - at_ := by simp
    have hkk := HK.out
    rw [hlen] at hkk
    rcases HC.out with ⟨rfl, rfl, hle, rfl⟩ | ⟨hne, rfl, rfl⟩
    · exact field_ok0_1 g bs at_ _ _ _ n _ HR.out hle HKS.out (fun A' c' hr h1 h2 => hkk A' c' (by rwa [World.size_alloc] at hr) h1 h2) (fun w1 ⟨_, _, _, hw1⟩ => H.out.below hw1)
    · exact field_okC_1 g bs at' _ _ _ n code _ (by simpa using hne) HR.out HKS.out (fun A' c' hr h1 h2 => hkk A' c' (by rwa [World.size_alloc] at hr) h1 h2) (fun w1 ⟨_, _, _, hw1⟩ => H.out.below hw1)
  refine (key _ rfl).mono ?_
  rintro e w2 ⟨rfl, w1, ⟨v, hb1, hv, hbl⟩, hf, hr⟩
  have hb2 := hb1.fr hf (by omega)
  have c1 : w2.cell? ⟨w.heap.size, 0, none⟩ = some v := hb2.cell 0
  have HR1 := hide hr
  have HF1 := hide (fr_g hbl hf)
  have HV := hide (HP.out v w1 w2 hv hbl.size hf)
  clear hr hf hb1 hb2 hbl key hv
  go_wp2
  go_ret
  exact ⟨v, ret_eq rfl, HV.out, HR1.out, HF1.out⟩

theorem rNumber_calls (most : Nat) (er : Option (Int × Int)) (h : IsR w g bs at_ er) :
    Calls Try.prog 29 #[.pointer (some ⟨g, 0, none⟩), .int .u64 most] w (NumPost g bs (rNum bs at_ er most) w) := by
  match er, h with
  | some x, h => exact (rNumber_err g bs at_ w most x h).mono fun e w' ⟨v, he, hv, h1, h2⟩ => ⟨by rw [he, hv]; rfl, h1, h2⟩
  | none, h =>
    have hl : (bs.drop at_).length ≤ 1099511627776 := by
      obtain ⟨_, _, _, _, _, _, _, _, _, _, h8⟩ := h
      simp; omega
    have hb0 := (W2.blk2 w 37 37 (.int .u64 most) (.int .u64 0)).drew
    have hm0 : (W2 w 37 37 (.int .u64 most) (.int .u64 0)).drew.cell? ⟨w.heap.size, 0, none⟩ = some (.int .u64 most) := (W2.blk1 w 37 37 (.int .u64 most) (.int .u64 0)).drew.cell 0
    have hbw := (W2.below w 37 37 (.int .u64 most) (.int .u64 0)).drew
    simp only [rNum]
    cases hn : numP (bs.drop at_) with
    | none => refine (rNumber_none g bs at_ w most (fun v _ => v = .int .u64 0) (fun _ _ _ h _ _ => h) h 0 2 at_ _ (.inr ⟨by decide, rfl, rfl⟩) fun A' c' hr _ _ => (numberK_bad _ A' c' _ _ _ _ hr hl hb0 hn).mono fun e w1 ⟨he, hw⟩ => ⟨he, _, by subst hw; exact hb0.set_ 0 _, rfl, by subst hw; exact hbw.setCell (Nat.le_succ _) _⟩).mono fun e w' ⟨v, he, hv, h1, h2⟩ => ⟨by rw [he, hv]; rfl, h1, h2⟩
    | some p =>
      obtain ⟨v, s⟩ := p
      simp only
      by_cases hv : most < v
      · rw [if_pos hv]
        refine (rNumber_none g bs at_ w most (fun v _ => v = .int .u64 0) (fun _ _ _ h _ _ => h) h 0 15 at_ _ (.inr ⟨by decide, rfl, rfl⟩) fun A' c' hr _ _ => (numberK_more _ A' c' _ _ _ most v s _ hr hl hm0 hn hv).mono fun e w1 ⟨he, hw⟩ => ⟨he, _, by subst hw; exact hb0, rfl, by subst hw; exact hbw⟩).mono fun e w' ⟨v, he, hv, h1, h2⟩ => ⟨by rw [he, hv]; rfl, h1, h2⟩
      · rw [if_neg hv]
        have hb := numGo_bounds _ 0 0 (by omega) (by simp) (by omega) v s hn
        have hle : at_ ≤ bs.length := by
          obtain ⟨_, _, _, _, _, _, _, _, _, h7, _⟩ := h
          exact h7
        refine (rNumber_none g bs at_ w most (fun x _ => x = .int .u64 v) (fun _ _ _ h _ _ => h) h s 0 _ _ (.inl ⟨rfl, rfl, by have := hb.2.2.1; simp at this; omega, rfl⟩) fun A' c' hr _ _ => (numberK_ok _ A' c' _ _ _ most v s _ hr hl hm0 hb0 hn hv).mono fun e w1 ⟨he, hw⟩ => ⟨he, _, by subst hw; exact hb0.set_ 0 _, rfl, by subst hw; exact hbw.setCell (Nat.le_succ _) _⟩).mono fun e w' ⟨v, he, hv, h1, h2⟩ => ⟨by rw [he, hv], h1, h2⟩

/-! ### Byte, Bool, Raw, Bytes -/
def rByte (bs : List UInt8) (at_ : Nat) (er : Option (Int × Int)) : UInt8 × Nat × Option (Int × Int) := match er with
  | some x => (0, at_, some x)
  | none => match bs.drop at_ with
    | [] => (0, at_, some (2, at_))
    | c :: _ => (c, at_ + 1, none)
def rBool (bs : List UInt8) (at_ : Nat) (er : Option (Int × Int)) : Bool × Nat × Option (Int × Int) := match er with
  | some x => (false, at_, some x)
  | none => match bs.drop at_ with
    | [] => (false, at_, some (2, at_))
    | c :: _ => if 1 < c.toNat then (false, at_, some (2, at_)) else (decide (c.toNat = 1), at_ + 1, none)
def rRaw (bs : List UInt8) (at_ : Nat) (er : Option (Int × Int)) (n : Int) : List UInt8 × Nat × Option (Int × Int) := match er with
  | some x => ([], at_, some x)
  | none => if n.toNat ≤ (bs.drop at_).length then ((bs.drop at_).take n.toNat, at_ + n.toNat, none) else ([], at_, some (2, at_))
def rBytes (bs : List UInt8) (at_ : Nat) (er : Option (Int × Int)) (most : Int) : List UInt8 × Nat × Option (Int × Int) := match er with
  | some x => ([], at_, some x)
  | none => match numP (bs.drop at_) with
    | none => ([], at_, some (2, at_))
    | some (n, s) => if most.toNat < n then ([], at_, some (3, at_)) else if (bs.drop at_).length - s < n then ([], at_, some (2, at_)) else (((bs.drop at_).drop s).take n, at_ + (s + n), none)

set_option maxHeartbeats 400000 in
theorem rByte_calls (er : Option (Int × Int)) (h : IsR w g bs at_ er) :
    Calls Try.prog 32 #[.pointer (some ⟨g, 0, none⟩)] w (RdPost g bs (rByte bs at_ er).2.1 (rByte bs at_ er).2.2 (fun v _ => v = bv (rByte bs at_ er).1) w) := by
  match er, h with
  | some x, h => exact rByte_err g bs at_ w x h
  | none, h =>
    have hb0 := (Blk.new w 5 #[.int .u8 0]).drew
    have hle : at_ ≤ bs.length := by
      obtain ⟨_, _, _, _, _, _, _, _, _, h7, _⟩ := h
      exact h7
    have hbw := ((Below.refl w.heap.size w).alloc (Nat.le_refl _) (.cells #[.int .u8 0] 5)).drew
    have c1 : (w.alloc (.cells #[.int .u8 0] 5)).drew.cell? ⟨w.heap.size, 0, none⟩ = some (.int .u8 0) := hb0.cell 0
    have c2 : (w.alloc (.cells #[.int .u8 0] 5)).drew.frozen? ⟨w.heap.size, 0, none⟩ = false := hb0.frozen 0
    simp only [rByte]
    cases hd : bs.drop at_ with
    | nil =>
      refine rByte_none g bs at_ w _ (fun _ _ _ h _ _ => h) h 0 2 at_ _ (.inr ⟨by decide, rfl, rfl⟩) fun A' c' hr _ _ => ?_
      rw [hd]
      have HB := hide (And.intro hb0 hbw)
      clear hb0 hbw hr hd
      go_enter Try.func58, Try.ntmps58
      go_wp2
      go_ret2
      exact ⟨rfl, _, HB.out.1, rfl, HB.out.2⟩
    | cons c l =>
      have hlen : at_ < bs.length := by
        rcases Nat.lt_or_ge at_ bs.length with h1 | h1
        · exact h1
        · rw [List.drop_eq_nil_of_le h1] at hd; cases hd
      refine rByte_none g bs at_ w _ (fun _ _ _ h _ _ => h) h 1 0 (at_ + 1) _ (.inl ⟨rfl, rfl, hlen, rfl⟩) fun A' c' hr _ _ => ?_
      rw [hd] at hr ⊢
      obtain ⟨b, o, rfl, _, hc⟩ := hr.map_at (k := 0) (by simp)
      simp only [List.getElem_cons_zero, Nat.add_zero] at hc
      have HB := hide (And.intro hb0 hbw)
      have e0 : (((c :: l).length : Int) == 0) = false := by rw [List.length_cons]; simp; omega
      have e1 : (0 : Int) < ((c :: l).length : Int) := by rw [List.length_cons]; omega
      clear hb0 hbw hr hd
      generalize (c :: l).length = N at *
      go_enter Try.func58, Try.ntmps58
      go_wp2
      go_ret2
      exact ⟨rfl, _, (Blk.new w _ _).drew, rfl, ((Below.refl _ _).alloc (Nat.le_refl _) _).drew⟩

set_option maxHeartbeats 400000 in
theorem rBool_calls (er : Option (Int × Int)) (h : IsR w g bs at_ er) :
    Calls Try.prog 34 #[.pointer (some ⟨g, 0, none⟩)] w (RdPost g bs (rBool bs at_ er).2.1 (rBool bs at_ er).2.2 (fun v _ => v = .bool (rBool bs at_ er).1) w) := by
  match er, h with
  | some x, h => exact rBool_err g bs at_ w x h
  | none, h =>
    have hb0 := (Blk.new w 4 #[.bool false]).drew
    have hle : at_ ≤ bs.length := by
      obtain ⟨_, _, _, _, _, _, _, _, _, h7, _⟩ := h
      exact h7
    have hbw := ((Below.refl w.heap.size w).alloc (Nat.le_refl _) (.cells #[.bool false] 4)).drew
    simp only [rBool]
    cases hd : bs.drop at_ with
    | nil =>
      refine rBool_none g bs at_ w _ (fun _ _ _ h _ _ => h) h 0 2 at_ _ (.inr ⟨by decide, rfl, rfl⟩) fun A' c' hr _ _ => ?_
      rw [hd]
      have HB := hide (And.intro hb0 hbw)
      clear hb0 hbw hr hd
      go_enter Try.func59, Try.ntmps59
      go_wp2
      go_ret2
      exact ⟨rfl, _, HB.out.1, rfl, HB.out.2⟩
    | cons c l =>
      have hlen : at_ < bs.length := by
        rcases Nat.lt_or_ge at_ bs.length with h1 | h1
        · exact h1
        · rw [List.drop_eq_nil_of_le h1] at hd; cases hd
      have e0 : (((c :: l).length : Int) == 0) = false := by rw [List.length_cons]; simp; omega
      have e1 : (0 : Int) < ((c :: l).length : Int) := by rw [List.length_cons]; omega
      simp only
      by_cases hc1 : 1 < c.toNat
      · rw [if_pos hc1]
        refine rBool_none g bs at_ w _ (fun _ _ _ h _ _ => h) h 0 2 at_ _ (.inr ⟨by decide, rfl, rfl⟩) fun A' c' hr _ _ => ?_
        rw [hd] at hr ⊢
        obtain ⟨b, o, rfl, _, hc⟩ := hr.map_at (k := 0) (by simp)
        simp only [List.getElem_cons_zero, Nat.add_zero] at hc
        have HB := hide (And.intro hb0 hbw)
        have e2 : decide (1 < (c.toNat : Int)) = true := by simp; omega
        clear hb0 hbw hr hd
        generalize (c :: l).length = N at *
        go_enter Try.func59, Try.ntmps59
        go_wp2
        go_ret2
        exact ⟨rfl, _, HB.out.1, rfl, HB.out.2⟩
      · rw [if_neg hc1]
        refine rBool_none g bs at_ w _ (fun _ _ _ h _ _ => h) h 1 0 (at_ + 1) _ (.inl ⟨rfl, rfl, hlen, rfl⟩) fun A' c' hr _ _ => ?_
        rw [hd] at hr ⊢
        obtain ⟨b, o, rfl, _, hc⟩ := hr.map_at (k := 0) (by simp)
        simp only [List.getElem_cons_zero, Nat.add_zero] at hc
        have e2 : decide (1 < (c.toNat : Int)) = false := by simp; omega
        have e3 : ((c.toNat : Int) == 1) = decide (c.toNat = 1) := by rw [Bool.eq_iff_iff]; simp; omega
        have c1 : (w.alloc (.cells #[.bool false] 4)).drew.cell? ⟨w.heap.size, 0, none⟩ = some (.bool false) := hb0.cell 0
        have c2 : (w.alloc (.cells #[.bool false] 4)).drew.frozen? ⟨w.heap.size, 0, none⟩ = false := hb0.frozen 0
        clear hb0 hbw hr hd
        generalize (c :: l).length = N at *
        go_enter Try.func59, Try.ntmps59
        go_wp2
        go_ret2
        exact ⟨rfl, _, (Blk.new w _ _).drew, rfl, ((Below.refl _ _).alloc (Nat.le_refl _) _).drew⟩

/-- A list of bytes in a row of the call's own. -/
def OwnB (N : Nat) (xs : List UInt8) (v : Value) (w : World) : Prop := ∃ A c, v = .slice A xs.length c ∧ w.ownsRow N 5 1 (.slice A xs.length c) xs.length (xs.map bv)
theorem OwnB.stays {N : Nat} {xs : List UInt8} {v : Value} {a b : World} (h : OwnB N xs v a) {F : Nat → Prop} (hF : ∀ k, F k → k < N) (hf : Fr F a b) : OwnB N xs v b := by
  obtain ⟨A, c, rfl, ho⟩ := h
  exact ⟨A, c, rfl, own_fr ho hf fun k hk hFk => by have := (ho.lt k hk).1; have := hF k hFk; omega⟩
theorem OwnB.nil (N : Nat) (w : World) : OwnB N [] (.slice none 0 0) w := ⟨none, 0, rfl, World.ownsRow_nil _ _ _ _⟩

set_option maxHeartbeats 400000 in
theorem rawK_bad (l : List UInt8) (A : Option Addr) (c pm po : Nat) (n : Int) (w : World) (hm : w.cell? ⟨pm, 0, none⟩ = some (.int .i64 n)) (hc : ¬ n.toNat ≤ l.length) :
    Calls Try.prog 61 #[.slice A l.length c, .pointer (some ⟨pm, 0, none⟩), .pointer (some ⟨po, 0, none⟩)] w (KPost 0 2 fun w1 => w1 = w) := by
  have hmax : max 0 n = n := by omega
  have hlt : decide ((l.length : Int) < n) = true := by simp; omega
  go_enter Try.func61, Try.ntmps61
  go_wp2
  go_ret2
  exact ⟨rfl, rfl⟩
set_option maxHeartbeats 400000 in
theorem rawK_ok (l : List UInt8) (A : Option Addr) (c pm po N m : Nat) (w : World) (hr : Reads w N 1 A l.length (l.map bv)) (hlc : l.length ≤ c) (hm : w.cell? ⟨pm, 0, none⟩ = some (.int .i64 (m : Int))) (h0 : 0 < m) (ho : Blk w po 23 #[.slice none 0 0])
    (hc : m ≤ l.length) (hl : l.length ≤ 1099511627776) (B : Nat) (hB : B ≤ w.heap.size) (hpo : B ≤ po) :
    Calls Try.prog 61 #[.slice A l.length c, .pointer (some ⟨pm, 0, none⟩), .pointer (some ⟨po, 0, none⟩)] w
      (KPost m 0 fun w1 => ∃ v, Blk w1 po 23 #[v] ∧ OwnB B (l.take m) v w1 ∧ Below B w w1) := by
  have c1 : w.cell? ⟨po, 0, none⟩ = some (.slice none 0 0) := ho.cell 0
  have hmax : max (0 : Int) (m : Int) = (m : Int) := by omega
  have hlt : decide ((l.length : Int) < (m : Int)) = false := by simp; omega
  have i1 : (0 : Int) ≤ (m : Int) := by omega
  have i2 : (m : Int) ≤ (c : Int) := by omega
  have ht := (hr.take (k := m) hc).drew
  rw [Nat.mul_one, ← List.map_take] at ht
  have hlen : (l.take m).length = m := by simp; omega
  have HL := hide hlen
  have HO := hide ho
  have hn := World.ownsRow_nil w.drew B 5 1
  clear hr ho hlen
  obtain ⟨i5, hi5, hz5, hs5, hb5⟩ := info_parts info_u8
  go_enter Try.func61, Try.ntmps61
  go_wp2_with fail
  refine wp_region_tail 4 (by kernel_rfl) (by kernel_rfl) ?_
  simp only [List.take_succ_cons, List.take_zero, List.drop_succ_cons, List.drop_zero]
  repeat still_step
  refine wpStill_nil ?_
  go_wp2_with (at_builtin; go_must (refine wpList_append_any _ rfl _ _ 23 rfl _ 5 i5 (.int .u8 0) 1 1 Try.underlying23 hi5 hz5 hs5 hb5 rfl (by decide) _ _ _ (by rfl) hn _ _ _ _ _ (by rfl) ht (oneCell_bv _) (by unfold maxLen; omega) (by omega) (by first | omega | (rw [World.size_drew]; omega) | (simp only [World.size_alloc]; omega)) ?_); intro Aq cq wq ownq growq lieq; have hb1 := HO.out.drew.grown growq (by simp [Value.ownBlock]); have d1 : wq.cell? ⟨po, 0, none⟩ = some (.slice none 0 0) := hb1.cell 0; have d2 : wq.frozen? ⟨po, 0, none⟩ = false := hb1.frozen 0; have HB1 := hide hb1; have HQ := hide (And.intro ownq growq); clear hb1 c1 ownq growq lieq ht hn)
  go_ret2
  obtain ⟨ownq, growq⟩ := HQ.out
  rw [Nat.zero_add, List.nil_append] at ownq
  have hbl := ((Below.refl B w).drew.grown growq hB (by simp [Value.ownBlock])).setCell (p := ⟨po, 0, none⟩) hpo (.slice Aq (0 + m) cq)
  rw [Nat.zero_add] at hbl
  refine ⟨rfl, _, HB1.out.set_ 0 _, ⟨Aq, cq, by rw [HL.out], ?_⟩, hbl⟩
  rw [HL.out]
  exact own_fr ownq ((Fr.refl (fun k => k = po) wq).setCell (p := ⟨po, 0, none⟩) (.inl rfl) _) (fun k hk e => by rw [e] at hk; exact own_blk_ne ownq HB1.out (by decide) hk)
set_option maxHeartbeats 400000 in
theorem rawK_neg (l : List UInt8) (A : Option Addr) (c pm po N : Nat) (n : Int) (w : World) (hr : Reads w N 1 A l.length (l.map bv)) (hlc : l.length ≤ c) (hm : w.cell? ⟨pm, 0, none⟩ = some (.int .i64 n)) (hn : n ≤ 0) (ho : Blk w po 23 #[.slice none 0 0])
    (hc : 0 ≤ l.length) (hl : l.length ≤ 1099511627776) (B : Nat) (hB : B ≤ w.heap.size) (hpo : B ≤ po) :
    Calls Try.prog 61 #[.slice A l.length c, .pointer (some ⟨pm, 0, none⟩), .pointer (some ⟨po, 0, none⟩)] w
      (KPost 0 0 fun w1 => ∃ v, Blk w1 po 23 #[v] ∧ OwnB B (l.take 0) v w1 ∧ Below B w w1) := by
  have c1 : w.cell? ⟨po, 0, none⟩ = some (.slice none 0 0) := ho.cell 0
  have hmax : max (0 : Int) n = 0 := by omega
  have hlt : decide ((l.length : Int) < 0) = false := by simp
  have i2 : (0 : Int) ≤ (c : Int) := by omega
  have ht := (hr.take (k := 0) hc).drew
  rw [Nat.zero_mul, ← List.map_take] at ht
  have hlen : (l.take 0).length = 0 := rfl
  have HL := hide hlen
  have HO := hide ho
  have hn := World.ownsRow_nil w.drew B 5 1
  clear hr ho hlen
  obtain ⟨i5, hi5, hz5, hs5, hb5⟩ := info_parts info_u8
  go_enter Try.func61, Try.ntmps61
  go_wp2_with fail
  refine wp_region_tail 4 (by kernel_rfl) (by kernel_rfl) ?_
  simp only [List.take_succ_cons, List.take_zero, List.drop_succ_cons, List.drop_zero]
  repeat still_step
  refine wpStill_nil ?_
  go_wp2_with (at_builtin; go_must (refine wpList_append_any _ rfl _ _ 23 rfl _ 5 i5 (.int .u8 0) 1 1 Try.underlying23 hi5 hz5 hs5 hb5 rfl (by decide) _ _ _ (by rfl) hn _ _ _ _ _ (by rfl) ht (oneCell_bv _) (by unfold maxLen; omega) (by omega) (by first | omega | (rw [World.size_drew]; omega) | (simp only [World.size_alloc]; omega)) ?_); intro Aq cq wq ownq growq lieq; have hb1 := HO.out.drew.grown growq (by simp [Value.ownBlock]); have d1 : wq.cell? ⟨po, 0, none⟩ = some (.slice none 0 0) := hb1.cell 0; have d2 : wq.frozen? ⟨po, 0, none⟩ = false := hb1.frozen 0; have HB1 := hide hb1; have HQ := hide (And.intro ownq growq); clear hb1 c1 ownq growq lieq ht hn)
  go_ret2
  obtain ⟨ownq, growq⟩ := HQ.out
  rw [Nat.zero_add, List.nil_append] at ownq
  have hbl := ((Below.refl B w).drew.grown growq hB (by simp [Value.ownBlock])).setCell (p := ⟨po, 0, none⟩) hpo (.slice Aq (0 + 0) cq)
  rw [Nat.zero_add] at hbl
  refine ⟨rfl, _, HB1.out.set_ 0 _, ⟨Aq, cq, by rw [HL.out], ?_⟩, hbl⟩
  rw [HL.out]
  exact own_fr ownq ((Fr.refl (fun k => k = po) wq).setCell (p := ⟨po, 0, none⟩) (.inl rfl) _) (fun k hk e => by rw [e] at hk; exact own_blk_ne ownq HB1.out (by decide) hk)
set_option maxHeartbeats 400000 in
theorem rRaw_calls (n : Int) (er : Option (Int × Int)) (h : IsR w g bs at_ er) :
    Calls Try.prog 37 #[.pointer (some ⟨g, 0, none⟩), .int .i64 n] w (RdPost g bs (rRaw bs at_ er n).2.1 (rRaw bs at_ er n).2.2 (OwnB w.heap.size (rRaw bs at_ er n).1) w) := by
  have hg : g < w.heap.size := by obtain ⟨_, _, _, hb, _⟩ := h; exact hb.lt
  match er, h with
  | some x, h => exact (rRaw_err g bs at_ w n x h).mono fun e w' ⟨v, he, hv, h1, h2⟩ => ⟨v, he, by subst hv; exact OwnB.nil _ _, h1, h2⟩
  | none, h =>
    have hle : at_ ≤ bs.length := by
      obtain ⟨_, _, _, _, _, _, _, _, _, h7, _⟩ := h
      exact h7
    have hl8 : (bs.drop at_).length ≤ 1099511627776 := by
      obtain ⟨_, _, _, _, _, _, _, _, _, _, h8⟩ := h
      simp; omega
    have hb0 := (W2.blk2 w 3 23 (.int .i64 n) (.slice none 0 0)).drew
    have hm0 : (W2 w 3 23 (.int .i64 n) (.slice none 0 0)).drew.cell? ⟨w.heap.size, 0, none⟩ = some (.int .i64 n) := (W2.blk1 w 3 23 (.int .i64 n) (.slice none 0 0)).drew.cell 0
    have hbw := (W2.below w 3 23 (.int .i64 n) (.slice none 0 0)).drew
    have hsz := W2.size w 3 23 (.int .i64 n) (.slice none 0 0)
    have hst : ∀ v a b, OwnB w.heap.size (rRaw bs at_ none n).1 v a → w.heap.size ≤ a.heap.size → Fr (fun k => k = g) a b → OwnB w.heap.size (rRaw bs at_ none n).1 v b :=
      fun v a b h1 _ h2 => h1.stays (fun k hk => by omega) h2
    have hps := W2.size w 3 23 (.int .i64 n) (.slice none 0 0)
    simp only [rRaw] at hst ⊢
    by_cases hc : n.toNat ≤ (bs.drop at_).length
    · simp only [if_pos hc] at hst ⊢
      have hat : at_ + n.toNat ≤ bs.length := by simp at hc; omega
      by_cases hn0 : n ≤ 0
      · have e : n.toNat = 0 := by omega
        rw [e] at hst hat ⊢
        exact rRaw_none g bs at_ w n _ hst h 0 0 _ _ (.inl ⟨rfl, rfl, hat, rfl⟩) fun A' c' hr hlc _ => (rawK_neg _ A' c' _ _ _ n _ hr hlc hm0 hn0 hb0 (Nat.zero_le _) hl8 w.heap.size (by rw [World.size_drew, hps]; omega) (by omega)).mono fun e w1 ⟨he, hw⟩ => ⟨he, by
          obtain ⟨v, h1, h2, h3⟩ := hw
          exact ⟨v, h1, h2, hbw.trans h3⟩⟩
      · obtain ⟨m, rfl⟩ : ∃ m : Nat, n = m := ⟨n.toNat, by omega⟩
        simp only [Int.toNat_natCast] at hc hst hat ⊢
        exact rRaw_none g bs at_ w _ _ hst h m 0 _ _ (.inl ⟨rfl, rfl, hat, rfl⟩) fun A' c' hr hlc _ => (rawK_ok _ A' c' _ _ _ m _ hr hlc hm0 (by omega) hb0 hc hl8 w.heap.size (by rw [World.size_drew, hps]; omega) (by omega)).mono fun e w1 ⟨he, hw⟩ => ⟨he, by
          obtain ⟨v, h1, h2, h3⟩ := hw
          exact ⟨v, h1, h2, hbw.trans h3⟩⟩
    · simp only [if_neg hc] at hst ⊢
      exact rRaw_none g bs at_ w n _ hst h 0 2 _ _ (.inr ⟨by decide, rfl, rfl⟩) fun A' c' hr hlc _ => (rawK_bad _ A' c' _ _ n _ hm0 hc).mono fun e w1 ⟨he, hw⟩ => ⟨he, _, by subst hw; exact hb0, by subst hw; exact OwnB.nil _ _, by subst hw; exact hbw⟩
end
end Go.Proofs.Ytidohbnmkogkmaa
